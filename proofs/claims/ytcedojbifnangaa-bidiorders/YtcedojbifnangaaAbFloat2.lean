/- Operations that float: what they do, and regions where they are carried out first. -/
import Derived.Test.YtcedojbifnangaaAbFloat
import Derived.Test.YtcedojbifnangaaAbDraw8
namespace Go.Ab

theorem exists_min {p : Nat → Prop} (h : ∃ i, p i) : ∃ i, p i ∧ ∀ j, j < i → ¬ p j := by
  obtain ⟨i, hi⟩ := h
  induction i using Nat.strongRecOn with
  | _ i ih =>
    by_cases hj : ∃ j, j < i ∧ p j
    · obtain ⟨j, hlt, hpj⟩ := hj
      exact ih j hlt hpj
    · exact ⟨i, hi, fun j hlt hpj => hj ⟨j, hlt, hpj⟩⟩

section
variable {P : Program} {ops : Array Oper} {N : Nat} {Q : Exit → Act → World → Prop}

theorem float_apart (st : Static P ops N) {L : Nat → Bool} (hL : Closed ops L) {i : Nat} {oi : Oper} (hi : ops[i]? = some oi) (hr : Ready L oi) {j : Nat} {oj : Oper} (hj : ops[j]? = some oj) (hji : j ≠ i) (hjf : L j = false)
    {S : Nat → Bool} (hSi : S i = false) (hSc : Closed ops S) (hSr : Ready S oj) : Ap ops oi oj := by
  rcases Nat.lt_or_ge j i with hlt | hge
  · have h : ord ops j i = true ∨ oj.apart ops oi = true := by
      rcases Nat.lt_or_ge i N with hiN | hiN
      · rcases st.head j i oj oi hlt hiN hj hi with h | h
        · exact .inl h
        · exact .inr h.1
      · rcases st.tail j i oj oi hiN hlt hj hi with h | h
        · exact .inl h
        · exact .inr h.2
    rcases h with h | h
    · have := ord_listed st.back hL i oi hi hr h
      rw [hjf] at this; cases this
    · exact (Ap.of h).symm
  · have hlt : i < j := by omega
    have h : ord ops i j = true ∨ oi.apart ops oj = true := by
      rcases Nat.lt_or_ge j N with hjN | hjN
      · rcases st.head i j oi oj hlt hjN hi hj with h | h
        · exact .inl h
        · exact .inr h.1
      · rcases st.tail i j oi oj hjN hlt hi hj with h | h
        · exact .inl h
        · exact .inr h.2
    rcases h with h | h
    · have := ord_listed st.back hSc j oj hj hSr h
      rw [hSi] at this; cases this
    · exact Ap.of h

theorem wpAny_float (st : Static P ops N) (J : (Nat → Bool) → Act → World → Prop)
    (hfloat : ∀ S a w, J S a w → Closed ops S → ∀ i o, ops[i]? = some o → S i = false → Ready S o → floats P o = true → (∀ p q, p < i → ops[p]? = some q → S p = false → floats P q = true → ¬ Ready S q) → ∃ u, Blind P ops o a u ∧ J (addTo S i) (a.put o.dst u) w)
    (hstep : ∀ S a w, J S a w → Closed ops S → (∀ p q, ops[p]? = some q → S p = false → floats P q = true → ¬ Ready S q) → ∀ i o, ops[i]? = some o → S i = false → Ready S o → wpOp P ops (only Q) i (J (addTo S i)) a w)
    (hend : ∀ S a w, J S a w → (∀ i, i < ops.size → S i = true) → Q .normal a w) : ∀ (fuel : Nat) (listed : Array Bool) (a : Act) (w : World), listed.size = ops.size → countF listed = fuel → Closed ops (setOf listed) → J (setOf listed) a w →
    wpAny P .any ops (only Q) fuel listed a w
  | 0, listed, a, w, hs, hc, _, hj => by
    have hall : ∀ i, i < ops.size → setOf listed i = true := fun i hi => countF_zero hc (by omega)
    refine ⟨?_, hend _ a w hj hall⟩
    apply List.eq_nil_iff_forall_not_mem.2
    intro i hi
    obtain ⟨o, ho, hf, _⟩ := (mem_ready hs).1 hi
    rw [hall i (Array.getElem?_eq_some_iff.1 ho).1] at hf
    cases hf
  | fuel + 1, listed, a, w, hs, hc, hcl, hj => by
    by_cases hex : ∃ i, ∃ o, ops[i]? = some o ∧ setOf listed i = false ∧ floats P o = true ∧ Ready (setOf listed) o
    · obtain ⟨i, ⟨o, ho, hf, hfl, hr⟩, hmin⟩ := exists_min hex
      obtain ⟨u, hb, hJ⟩ := hfloat _ a w hj hcl i o ho hf hr hfl fun p q hp hq hpf hqf hqr => hmin p hp ⟨q, hq, hpf, hqf, hqr⟩
      have hil : i < listed.size := by rw [hs]; exact (Array.getElem?_eq_some_iff.1 ho).1
      refine wpAny_first st.nosel ho fuel listed a w hs hf hr (fun j oj hoj hji hjf S _ hSi hSc hSr => float_apart st hcl ho hr hoj hji hjf hSi hSc hSr) hcl hb ?_
      have hset := setOf_set hil
      refine wpAny_float st J hfloat hstep hend fuel _ _ w (by simp [hs]) ?_ ?_ (by rw [hset]; exact hJ)
      · have := countF_set hil hf; omega
      · rw [hset]; exact hcl.add ho hr
    · refine ⟨fun hr => hend _ a w hj (all_of_ready_nil st.back hs hr), fun i hi => ?_⟩
      obtain ⟨o, ho, hf, hready⟩ := (mem_ready hs).1 hi
      have hil : i < listed.size := by rw [hs]; exact (Array.getElem?_eq_some_iff.1 ho).1
      refine wpOp_mono (fun a' w' hj' => ?_) (hstep _ a w hj hcl (fun p q hq hpf hqf hqr => hex ⟨p, q, hq, hpf, hqf, hqr⟩) i o ho hf hready)
      have hset := setOf_set hil
      refine wpAny_float st J hfloat hstep hend fuel _ a' w' (by simp [hs]) ?_ ?_ (by rw [hset]; exact hj')
      · have := countF_set hil hf; omega
      · rw [hset]; exact hcl.add ho hready

theorem region_of_float (hm : P.follows .mixedOrders = true) (st : Static P ops N) (J : (Nat → Bool) → Act → World → Prop)
    (hfloat : ∀ S a w, J S a w → Closed ops S → ∀ i o, ops[i]? = some o → S i = false → Ready S o → floats P o = true → (∀ p q, p < i → ops[p]? = some q → S p = false → floats P q = true → ¬ Ready S q) → ∃ u, Blind P ops o a u ∧ J (addTo S i) (a.put o.dst u) w)
    (hstep : ∀ S a w, J S a w → Closed ops S → (∀ p q, ops[p]? = some q → S p = false → floats P q = true → ¬ Ready S q) → ∀ i o, ops[i]? = some o → S i = false → Ready S o → wpOp P ops (only Q) i (J (addTo S i)) a w)
    (hend : ∀ S a w, J S a w → (∀ i, i < ops.size → S i = true) → Q .normal a w) {id : Nat} {a : Act} {w : World} (h0 : J (fun _ => false) a { w with drawn := w.drawn + 1 }) : (Code.region id ops true).wp P Q a w := by
  have hset : setOf (Array.replicate ops.size false) = fun _ => false := by
    funext i; simp [setOf, Array.getD_eq_getD_getElem?, Array.getElem?_replicate]
    split <;> rfl
  refine Code.wp_mono (Q := only Q) ?_ (wp_region_any hm (wpAny_float st J hfloat hstep hend ops.size _ a _ (by simp) ?_ ?_ ?_))
  · intro e a w h
    cases e <;> first | exact h | exact h.elim
  · simp [countF]
  · rw [hset]; intro i o _ h; cases h
  · rw [hset]; exact h0

/-- Below an operation of the last part, everything has been carried out, if what floats has been wherever it can. -/
theorem below_done (st : Static P ops N) {S : Nat → Bool} (hcl : Closed ops S) {i : Nat} {o : Oper} (hi : N ≤ i) (ho : ops[i]? = some o) (hr : Ready S o)
    (hsat : ∀ p q, p < i → ops[p]? = some q → S p = false → floats P q = true → ¬ Ready S q) : ∀ p, p < i → S p = true := by
  intro p
  induction p using Nat.strongRecOn with
  | _ p ih =>
    intro hp
    have hio : i < ops.size := (Array.getElem?_eq_some_iff.1 ho).1
    have hop : ops[p]? = some ops[p] := Array.getElem?_eq_getElem (by omega)
    rcases st.tail p i ops[p] o hi hp hop ho with h | ⟨h, _⟩
    · exact ord_listed st.back hcl i o ho hr h
    · cases hS : S p with
      | true => rfl
      | false =>
        refine absurd ?_ (hsat p _ hp hop hS h)
        intro e he hb
        have hlt := st.back p _ hop e he hb
        exact ih e.on hlt (by omega)

/-! ### What floats -/

def plainV : V → Bool
  | .bool _ | .int .. | .str _ => true
  | _ => false

theorem R.plain {m m' : Mu} {h h' : Heap} {w w' : World} {x : V} {v : Value} (hp : plainV x = true) (hr : R m h w x v) : R m' h' w' x v := by
  cases hr <;> simp only [plainV, Bool.false_eq_true] at hp
  · exact .bool _
  · exact .int _ _
  · exact .str _

theorem R.plain_eq {m m' : Mu} {h h' : Heap} {w w' : World} {x : V} {v v' : Value} (hp : plainV x = true) (hr : R m h w x v) (hr' : R m' h' w' x v') : v = v' := by
  cases hr <;> simp only [plainV, Bool.false_eq_true] at hp <;> cases hr' <;> rfl

theorem binV_plain {op : BinOp} {t : TypeId} {k : IntKind} {x y z : V} (ht : P.underlying t = some (.int k)) (hz : binV P op t x y = some z) : plainV x = true ∧ plainV y = true ∧ plainV z = true := by
  have heq : ∀ x y, eqV P t x y = none := by
    intro x y
    unfold eqV
    split <;> simp [ht]
  unfold binV at hz
  split at hz
  · split at hz
    · cases hz
    · cases hz; exact ⟨rfl, rfl, rfl⟩
  · split at hz
    · cases hz
    · cases hz; exact ⟨rfl, rfl, rfl⟩
  · split at hz
    · refine ⟨rfl, rfl, ?_⟩
      unfold intBin at hz
      split at hz
      all_goals first
        | (cases hz; done)
        | (cases hz; rfl)
        | (split at hz <;> first | (cases hz; done) | (cases hz; rfl))
    · cases hz
  · refine ⟨rfl, rfl, ?_⟩
    unfold strBin at hz
    split at hz
    all_goals first
      | (cases hz; done)
      | (cases hz; rfl)
      | (split at hz <;> first | (cases hz; done) | (cases hz; rfl))
  · rw [heq] at hz; cases hz
  · rw [heq] at hz; cases hz
  · cases hz

theorem unV_plain {op : UnOp} {x z : V} (hz : unV op x = some z) : plainV x = true ∧ plainV z = true := by
  unfold unV at hz
  split at hz
  · cases hz; exact ⟨rfl, rfl⟩
  · simp only [intBin] at hz; cases hz; exact ⟨rfl, rfl⟩
  · cases hz; exact ⟨rfl, rfl⟩
  · cases hz

/-- What floats leaves the heap as it is, and does not look at it. -/
theorem float_heap {o : Oper} (hf : floats P o = true) {cfg : Cfg} {fr : List V} {h h' : Heap} {v : V} (hv : opV P cfg fr h o.op = some (v, h')) : h' = h ∧ ∀ g, opV P cfg fr g o.op = some (v, g) := by
  unfold floats at hf
  split at hf
  · rename_i hop
    rw [hop] at hv ⊢
    simp only [opV] at hv ⊢
    obtain ⟨h1, h2⟩ := map_pair hv
    exact ⟨h2, fun g => by rw [h1]; rfl⟩
  · rename_i hop
    rw [hop] at hv ⊢
    simp only [opV] at hv ⊢
    split at hv
    · obtain ⟨h1, h2⟩ := map_pair hv
      exact ⟨h2, fun g => by rw [h1]; rfl⟩
    · cases hv
  · rename_i hop
    rw [hop] at hv ⊢
    simp only [opV] at hv ⊢
    split at hv
    · obtain ⟨h1, h2⟩ := map_pair hv
      exact ⟨h2, fun g => by rw [h1]; rfl⟩
    · cases hv
  · rename_i hop
    rw [hop] at hv ⊢
    simp only [opV] at hv ⊢
    split at hv
    · obtain ⟨h1, h2⟩ := map_pair hv
      exact ⟨h2, fun g => by rw [h1]; rfl⟩
    · cases hv
  · cases hf

theorem float_ok {o : Oper} (hf : floats P o = true) {cfg : Cfg} {fr : List V} {h h' : Heap} {v : V} (hv : opV P cfg fr h o.op = some (v, h')) {m : Mu} {g : Heap} {w : World} {a : Act} (f : FR m g w fr a) :
    ∃ u, (∀ w', (execOp a.eval o).run P w' = .ok (.value u) w') ∧ R m g w v u := by
  unfold floats at hf
  split at hf
  · rename_i y hop
    rw [hop] at hv
    simp only [opV] at hv
    obtain ⟨h1, _⟩ := map_pair hv
    exact ⟨a.eval y, fun w' => by simp only [execOp, hop, Sem.run_pure], ev_R f h1⟩
  · rename_i y i hop
    rw [hop] at hv
    simp only [opV] at hv
    split at hv
    · rename_i b hb
      obtain ⟨h1, _⟩ := map_pair hv
      have hx := ev_R f hb
      unfold extractV at h1
      split at h1
      · generalize hvy : a.eval y = vy at hx
        cases hx with
        | tup hl hr =>
          have hlt := (List.getElem?_eq_some_iff.1 h1).1
          rw [← hl] at hlt
          exact ⟨_, fun w' => by simp [execOp, hop, hvy, Instr.extract, hlt], hr i v _ h1 (Array.getElem?_eq_getElem hlt)⟩
      · cases h1
    · cases hv
  · rename_i op t y hop
    rw [hop] at hv
    simp only [opV] at hv
    split at hv
    · rename_i b hb
      obtain ⟨h1, _⟩ := map_pair hv
      have hx := ev_R f hb
      obtain ⟨p1, p2⟩ := unV_plain h1
      obtain ⟨u, hu, hru⟩ := un_ok (P := P) hx h1
      refine ⟨u, fun w' => ?_, hru⟩
      obtain ⟨u', hu', hru'⟩ := un_ok (P := P) (w := w') (hx.plain (m' := m) (h' := g) (w' := w') p1) h1
      rw [hru.plain_eq p2 hru']
      simp only [execOp, hop, Sem.run_bind, hu', Result.andThen_ok, Sem.run_pure]
    · cases hv
  · rename_i op t y z c hop
    split at hf
    · rename_i k ht
      rw [hop] at hv
      simp only [opV] at hv
      split at hv
      · rename_i b d hb hd
        obtain ⟨h1, _⟩ := map_pair hv
        have hx := ev_R f hb
        have hy := ev_R f hd
        obtain ⟨p1, p2, p3⟩ := binV_plain ht h1
        obtain ⟨u, hu, hru⟩ := bin_ok (P := P) (ox := y) (oy := z) hx hy h1
        refine ⟨u, fun w' => ?_, hru⟩
        obtain ⟨u', hu', hru'⟩ := bin_ok (P := P) (ox := y) (oy := z) (w := w') (hx.plain (m' := m) (h' := g) (w' := w') p1) (hy.plain p2) h1
        rw [hru.plain_eq p3 hru']
        have : (execOp a.eval o) = (do let v ← (do eqGuard op t y z (a.eval y) (a.eval z); binOp op t (a.eval y) (a.eval z) : Sem Value); pure (.value v)) := by simp only [execOp, hop]
        rw [this, Sem.run_bind, hu']
        rfl
      · cases hv
    · cases hf
  · cases hf
end
end Go.Ab
