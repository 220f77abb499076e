/- Several texts of this proof in one. -/
import Derived.Test.YtoappddifbgegaaGreatAbDraw8
set_option linter.all false
namespace Go.Ab
variable [Base]
theorem exists_min {p : Nat → Prop} (h : ∃ i, p i) : ∃ i, p i ∧ ∀ j, j < i → ¬ p j := by
  obtain ⟨i, hi⟩ := h
  induction i using Nat.strongRecOn with
  | _ i ih =>
    by_cases hj : ∃ j, j < i ∧ p j
    · obtain ⟨j, hlt, hpj⟩ := hj
      exact ih j hlt hpj
    · exact ⟨i, hi, fun j hlt hpj => hj ⟨j, hlt, hpj⟩⟩
section
variable {P : Program} {ops : Array Oper} {N : Nat} {Q : Exit → Act → World → Prop}
theorem float_apart (st : Static P ops N) {L : Nat → Bool} (hL : Closed ops L) {i : Nat} {oi : Oper} (hi : ops[i]? = some oi) (hr : Ready L oi) {j : Nat} {oj : Oper} (hj : ops[j]? = some oj) (hji : j ≠ i) (hjf : L j = false)
    {S : Nat → Bool} (hSi : S i = false) (hSc : Closed ops S) (hSr : Ready S oj) : Ap ops oi oj := by
  rcases Nat.lt_or_ge j i with hlt | hge
  · have h : ord ops j i = true ∨ oj.apart ops oi = true := by
      rcases Nat.lt_or_ge i N with hiN | hiN
      · rcases st.head j i oj oi hlt hiN hj hi with h | h
        · exact .inl h
        · exact .inr h.1
      · rcases st.tail j i oj oi hiN hlt hj hi with h | h
        · exact .inl h
        · exact .inr h.2
    rcases h with h | h
    · have := ord_listed st.back hL i oi hi hr h
      rw [hjf] at this; cases this
    · exact (Ap.of h).symm
  · have hlt : i < j := by omega
    have h : ord ops i j = true ∨ oi.apart ops oj = true := by
      rcases Nat.lt_or_ge j N with hjN | hjN
      · rcases st.head i j oi oj hlt hjN hi hj with h | h
        · exact .inl h
        · exact .inr h.1
      · rcases st.tail i j oi oj hjN hlt hi hj with h | h
        · exact .inl h
        · exact .inr h.2
    rcases h with h | h
    · have := ord_listed st.back hSc j oj hj hSr h
      rw [hSi] at this; cases this
    · exact Ap.of h
theorem wpAny_float (st : Static P ops N) (J : (Nat → Bool) → Act → World → Prop)
    (hfloat : ∀ S a w, J S a w → Closed ops S → ∀ i o, ops[i]? = some o → S i = false → Ready S o → floats P o = true → (∀ p q, p < i → ops[p]? = some q → S p = false → floats P q = true → ¬ Ready S q) → ∃ u, Blind P ops o a u ∧ J (addTo S i) (a.put o.dst u) w)
    (hstep : ∀ S a w, J S a w → Closed ops S → (∀ p q, ops[p]? = some q → S p = false → floats P q = true → ¬ Ready S q) → ∀ i o, ops[i]? = some o → S i = false → Ready S o → wpOp P ops (only Q) i (J (addTo S i)) a w)
    (hend : ∀ S a w, J S a w → (∀ i, i < ops.size → S i = true) → Q .normal a w) : ∀ (fuel : Nat) (listed : Array Bool) (a : Act) (w : World), listed.size = ops.size → countF listed = fuel → Closed ops (setOf listed) → J (setOf listed) a w →
    wpAny P .any ops (only Q) fuel listed a w
  | 0, listed, a, w, hs, hc, _, hj => by
    have hall : ∀ i, i < ops.size → setOf listed i = true := fun i hi => countF_zero hc (by omega)
    refine ⟨?_, hend _ a w hj hall⟩
    apply List.eq_nil_iff_forall_not_mem.2
    intro i hi
    obtain ⟨o, ho, hf, _⟩ := (mem_ready hs).1 hi
    rw [hall i (Array.getElem?_eq_some_iff.1 ho).1] at hf
    cases hf
  | fuel + 1, listed, a, w, hs, hc, hcl, hj => by
    by_cases hex : ∃ i, ∃ o, ops[i]? = some o ∧ setOf listed i = false ∧ floats P o = true ∧ Ready (setOf listed) o
    · obtain ⟨i, ⟨o, ho, hf, hfl, hr⟩, hmin⟩ := exists_min hex
      obtain ⟨u, hb, hJ⟩ := hfloat _ a w hj hcl i o ho hf hr hfl fun p q hp hq hpf hqf hqr => hmin p hp ⟨q, hq, hpf, hqf, hqr⟩
      have hil : i < listed.size := by rw [hs]; exact (Array.getElem?_eq_some_iff.1 ho).1
      refine wpAny_first st.nosel ho fuel listed a w hs hf hr (fun j oj hoj hji hjf S _ hSi hSc hSr => float_apart st hcl ho hr hoj hji hjf hSi hSc hSr) hcl hb ?_
      have hset := setOf_set hil
      refine wpAny_float st J hfloat hstep hend fuel _ _ w (by simp [hs]) ?_ ?_ (by rw [hset]; exact hJ)
      · have := countF_set hil hf; omega
      · rw [hset]; exact hcl.add ho hr
    · refine ⟨fun hr => hend _ a w hj (all_of_ready_nil st.back hs hr), fun i hi => ?_⟩
      obtain ⟨o, ho, hf, hready⟩ := (mem_ready hs).1 hi
      have hil : i < listed.size := by rw [hs]; exact (Array.getElem?_eq_some_iff.1 ho).1
      refine wpOp_mono (fun a' w' hj' => ?_) (hstep _ a w hj hcl (fun p q hq hpf hqf hqr => hex ⟨p, q, hq, hpf, hqf, hqr⟩) i o ho hf hready)
      have hset := setOf_set hil
      refine wpAny_float st J hfloat hstep hend fuel _ a' w' (by simp [hs]) ?_ ?_ (by rw [hset]; exact hj')
      · have := countF_set hil hf; omega
      · rw [hset]; exact hcl.add ho hready
theorem any_of_float (st : Static P ops N) (J : (Nat → Bool) → Act → World → Prop)
    (hfloat : ∀ S a w, J S a w → Closed ops S → ∀ i o, ops[i]? = some o → S i = false → Ready S o → floats P o = true → (∀ p q, p < i → ops[p]? = some q → S p = false → floats P q = true → ¬ Ready S q) → ∃ u, Blind P ops o a u ∧ J (addTo S i) (a.put o.dst u) w)
    (hstep : ∀ S a w, J S a w → Closed ops S → (∀ p q, ops[p]? = some q → S p = false → floats P q = true → ¬ Ready S q) → ∀ i o, ops[i]? = some o → S i = false → Ready S o → wpOp P ops (only Q) i (J (addTo S i)) a w)
    (hend : ∀ S a w, J S a w → (∀ i, i < ops.size → S i = true) → Q .normal a w) {a : Act} {w : World} (h0 : J (fun _ => false) a w) : wpAny P .any ops (only Q) ops.size (Array.replicate ops.size false) a w := by
  have hset : setOf (Array.replicate ops.size false) = fun _ => false := by
    funext i; simp [setOf, Array.getD_eq_getD_getElem?, Array.getElem?_replicate]
    split <;> rfl
  refine wpAny_float st J hfloat hstep hend ops.size _ a _ (by simp) ?_ ?_ ?_
  · simp [countF]
  · rw [hset]; intro i o _ h; cases h
  · rw [hset]; exact h0
theorem region_of_any (hm : P.follows .mixedOrders = true) {id : Nat} {a : Act} {w : World} (h : wpAny P .any ops (only Q) ops.size (Array.replicate ops.size false) a { w with drawn := w.drawn + 1 }) : (Code.region id ops true).wp P Q a w := by
  refine Code.wp_mono (Q := only Q) ?_ (wp_region_any hm h)
  intro e a w h
  cases e <;> first | exact h | exact h.elim
theorem wpAny_push {o : Oper} (hg : ∀ (i : Nat) (q : Oper), ops[i]? = some q → q.guard = none) (hb : Back ops) : ∀ (fuel : Nat) (listed : Array Bool) (a : Act) (w : World), listed.size = ops.size → wpAny P .any ops (only Q) fuel listed a w → wpAny P .any (ops.push o) (only Q) fuel (listed.push true) a w := by
  have hlt : ∀ (listed : Array Bool), listed.size = ops.size → ∀ i, i < ops.size → setOf (listed.push true) i = setOf listed i := fun listed hs i hi => by
    simp [setOf, Array.getD_eq_getD_getElem?, Array.getElem?_push, hs, show ¬ i = ops.size by omega]
  have hrd : ∀ (listed : Array Bool), listed.size = ops.size → ∀ i, i ∈ Region.ready .any (ops.push o) (listed.push true) → i ∈ Region.ready .any ops listed := fun listed hs i hi => by
    obtain ⟨q, hq, hf, hr⟩ := (mem_ready (by simp [hs])).1 hi
    rw [Array.getElem?_push] at hq
    split at hq
    · rename_i e
      subst e
      have h9 : setOf (listed.push true) ops.size = true := by rw [← hs]; simp [setOf]
      rw [h9] at hf
      cases hf
    · have hio := (Array.getElem?_eq_some_iff.1 hq).1
      refine (mem_ready hs).2 ⟨q, hq, by rw [← hlt listed hs i hio]; exact hf, fun e he hbd => ?_⟩
      rw [← hlt listed hs e.on (by have := hb i q hq e he hbd; omega)]
      exact hr e he hbd
  have hdr : ∀ (listed : Array Bool), listed.size = ops.size → ∀ i, i ∈ Region.ready .any ops listed → i ∈ Region.ready .any (ops.push o) (listed.push true) := fun listed hs i hi => by
    obtain ⟨q, hq, hf, hr⟩ := (mem_ready hs).1 hi
    have hio := (Array.getElem?_eq_some_iff.1 hq).1
    refine (mem_ready (by simp [hs])).2 ⟨q, by rw [Array.getElem?_push, if_neg (by omega)]; exact hq, by rw [hlt listed hs i hio]; exact hf, fun e he hbd => ?_⟩
    rw [hlt listed hs e.on (by have := hb i q hq e he hbd; omega)]
    exact hr e he hbd
  intro fuel
  induction fuel with
  | zero =>
    intro listed a w hs h
    refine ⟨?_, h.2⟩
    apply List.eq_nil_iff_forall_not_mem.2
    intro i hi
    have := hrd listed hs i hi
    rw [h.1] at this
    cases this
  | succ fuel ih =>
    intro listed a w hs h
    refine ⟨fun hn => h.1 ?_, fun i hi => ?_⟩
    · apply List.eq_nil_iff_forall_not_mem.2
      intro i hi
      have := hdr listed hs i hi
      rw [hn] at this
      cases this
    · have hi0 := hrd listed hs i hi
      obtain ⟨q, hq, _, _⟩ := (mem_ready hs).1 hi0
      have hio := (Array.getElem?_eq_some_iff.1 hq).1
      have hsw : (listed.push true).setIfInBounds i true = (listed.setIfInBounds i true).push true := by
        apply Array.ext_getElem?
        intro z
        simp only [Array.getElem?_setIfInBounds, Array.getElem?_push, Array.size_push, Array.size_setIfInBounds]
        by_cases hz : i = z
        · subst hz; simp [hs, hio, show ¬ i = ops.size by omega]; omega
        · simp [hz]
      have h2 := wpOp_mono (fun a w hk => ih (listed.setIfInBounds i true) a w (by simp [hs]) hk) (h.2 i hi0)
      rw [hsw]
      have hqp : (ops.push o)[i]? = some q := by rw [Array.getElem?_push, if_neg (by omega)]; exact hq
      have hgq := hg i q hq
      unfold wpOp at h2 ⊢
      rw [hq] at h2
      rw [hqp]
      simp only [Region.wanted, hgq] at h2 ⊢
      exact h2
theorem below_done (st : Static P ops N) {S : Nat → Bool} (hcl : Closed ops S) {i : Nat} {o : Oper} (hi : N ≤ i) (ho : ops[i]? = some o) (hr : Ready S o)
    (hsat : ∀ p q, p < i → ops[p]? = some q → S p = false → floats P q = true → ¬ Ready S q) : ∀ p, p < i → S p = true := by
  intro p
  induction p using Nat.strongRecOn with
  | _ p ih =>
    intro hp
    have hio : i < ops.size := (Array.getElem?_eq_some_iff.1 ho).1
    have hop : ops[p]? = some ops[p] := Array.getElem?_eq_getElem (by omega)
    rcases st.tail p i ops[p] o hi hp hop ho with h | ⟨h, _⟩
    · exact ord_listed st.back hcl i o ho hr h
    · cases hS : S p with
      | true => rfl
      | false =>
        refine absurd ?_ (hsat p _ hp hop hS h)
        intro e he hb
        have hlt := st.back p _ hop e he hb
        exact ih e.on hlt (by omega)
/-! ### What floats -/
def plainV : V → Bool
  | .bool _ | .int .. | .str _ => true
  | _ => false
theorem R.plain {m m' : Mu} {h h' : Heap} {w w' : World} {x : V} {v : Value} (hp : plainV x = true) (hr : R m h w x v) : R m' h' w' x v := by
  cases hr <;> simp only [plainV, Bool.false_eq_true] at hp
  · exact .bool _
  · exact .int _ _
  · exact .str _
theorem R.plain_eq {m m' : Mu} {h h' : Heap} {w w' : World} {x : V} {v v' : Value} (hp : plainV x = true) (hr : R m h w x v) (hr' : R m' h' w' x v') : v = v' := by
  cases hr <;> simp only [plainV, Bool.false_eq_true] at hp <;> cases hr' <;> rfl
theorem binV_plain {op : BinOp} {t : TypeId} {k : IntKind} {x y z : V} (ht : P.underlying t = some (.int k)) (hz : binV P op t x y = some z) : plainV x = true ∧ plainV y = true ∧ plainV z = true := by
  have heq : ∀ x y, eqV P t x y = none := by
    intro x y
    unfold eqV
    split <;> simp [ht]
  unfold binV at hz
  split at hz
  · split at hz
    · cases hz
    · cases hz; exact ⟨rfl, rfl, rfl⟩
  · split at hz
    · cases hz
    · cases hz; exact ⟨rfl, rfl, rfl⟩
  · split at hz
    · refine ⟨rfl, rfl, ?_⟩
      unfold intBin at hz
      split at hz
      all_goals first
        | (cases hz; done)
        | (cases hz; rfl)
        | (split at hz <;> first | (cases hz; done) | (cases hz; rfl))
    · cases hz
  · refine ⟨rfl, rfl, ?_⟩
    unfold strBin at hz
    split at hz
    all_goals first
      | (cases hz; done)
      | (cases hz; rfl)
      | (split at hz <;> first | (cases hz; done) | (cases hz; rfl))
  · rw [heq] at hz; cases hz
  · rw [heq] at hz; cases hz
  · cases hz
theorem unV_plain {op : UnOp} {x z : V} (hz : unV op x = some z) : plainV x = true ∧ plainV z = true := by
  unfold unV at hz
  split at hz
  · cases hz; exact ⟨rfl, rfl⟩
  · simp only [intBin] at hz; cases hz; exact ⟨rfl, rfl⟩
  · cases hz; exact ⟨rfl, rfl⟩
  · cases hz
theorem maxV_plain {xs : List V} {y : V} (hy : maxV xs = some y) : (∀ c ∈ xs, plainV c = true) ∧ plainV y = true := by
  unfold maxV at hy
  split at hy
  · cases hy; exact ⟨fun c hc => by simp at hc; rcases hc with rfl | rfl <;> rfl, rfl⟩
  · cases hy; exact ⟨fun c hc => by simp at hc; rcases hc with rfl | rfl | rfl <;> rfl, rfl⟩
  · cases hy
theorem minV_plain {xs : List V} {y : V} (hy : minV xs = some y) : (∀ c ∈ xs, plainV c = true) ∧ plainV y = true := by
  unfold minV at hy
  split at hy
  · cases hy; exact ⟨fun c hc => by simp at hc; rcases hc with rfl | rfl <;> rfl, rfl⟩
  · cases hy; exact ⟨fun c hc => by simp at hc; rcases hc with rfl | rfl | rfl <;> rfl, rfl⟩
  · cases hy
theorem len_okF {m : Mu} {h : Heap} {w : World} {t ty : TypeId} {x y : V} {xv : Value} (hx : R m h w x xv) (hy : lenV P t x = some y) : ∃ v, (∀ w' : World, (Builtin.len_ #[t] ty #[xv]).run P w' = .ok v w') ∧ R m h w y v := by
  unfold lenV at hy
  split at hy
  · rename_i s hu; cases hx; cases hy; exact ⟨_, fun w' => by simp [Builtin.len_, run_underlying hu, goInt], .int _ _⟩
  · rename_i e b off len cap k hu; cases hx; cases hy; exact ⟨_, fun w' => by simp [Builtin.len_, run_underlying hu, goInt], .int _ _⟩
  · rename_i e xs hu
    cases hy
    cases hx with
    | lst0 a rc _ => exact ⟨_, fun w' => by simp [Builtin.len_, run_underlying hu, goInt], .int _ _⟩
    | lst rv him hrc hk hc hf hr => exact ⟨_, fun w' => by simp [Builtin.len_, run_underlying hu, goInt], .int _ _⟩
  · rename_i e hu; cases hx; cases hy; exact ⟨_, fun w' => by simp [Builtin.len_, run_underlying hu, goInt], .int _ _⟩
  · rename_i n e hu; cases hy; exact ⟨_, fun w' => by simp [Builtin.len_, run_underlying hu, goInt], .int _ _⟩
  · cases hy
theorem float_heap {o : Oper} (hf : floats P o = true) {cfg : Cfg} {fr : List V} {h h' : Heap} {v : V} (hv : opV P cfg fr h o.op = some (v, h')) : h' = h ∧ ∀ g, opV P cfg fr g o.op = some (v, g) := by
  unfold floats at hf
  split at hf
  · rename_i hop
    rw [hop] at hv ⊢
    simp only [opV] at hv ⊢
    obtain ⟨h1, h2⟩ := map_pair hv
    exact ⟨h2, fun g => by rw [h1]; rfl⟩
  · rename_i hop
    rw [hop] at hv ⊢
    simp only [opV] at hv ⊢
    split at hv
    · obtain ⟨h1, h2⟩ := map_pair hv
      exact ⟨h2, fun g => by rw [h1]; rfl⟩
    · cases hv
  · rename_i hop
    rw [hop] at hv ⊢
    simp only [opV] at hv ⊢
    split at hv
    · obtain ⟨h1, h2⟩ := map_pair hv
      exact ⟨h2, fun g => by rw [h1]; rfl⟩
    · cases hv
  · rename_i hop
    rw [hop] at hv ⊢
    simp only [opV] at hv ⊢
    split at hv
    · obtain ⟨h1, h2⟩ := map_pair hv
      exact ⟨h2, fun g => by rw [h1]; rfl⟩
    · cases hv
  · rename_i hop
    rw [hop] at hv ⊢
    simp only [opV] at hv ⊢
    split at hv
    · cases hv
    · obtain ⟨h1, h2⟩ := map_pair hv
      exact ⟨h2, fun g => by rw [h1]; rfl⟩
  · rename_i hop
    rw [hop] at hv ⊢
    simp only [opV] at hv ⊢
    split at hv
    · cases hv
    · obtain ⟨h1, h2⟩ := map_pair hv
      exact ⟨h2, fun g => by rw [h1]; rfl⟩
  · rename_i args tys hop
    obtain ⟨t, rfl⟩ := lenFl_inv hf
    rw [hop] at hv ⊢
    simp only [opV] at hv ⊢
    split at hv
    · cases hv
    · rename_i vs hvs
      match vs, hv with
      | [x], hv =>
        obtain ⟨h1, h2⟩ := map_pair hv
        exact ⟨h2, fun g => by simp [hvs, h1]⟩
      | [], hv => cases hv
      | _ :: _ :: _, hv => cases hv
  · cases hf
theorem float_ok {o : Oper} (hf : floats P o = true) {cfg : Cfg} {fr : List V} {h h' : Heap} {v : V} (hv : opV P cfg fr h o.op = some (v, h')) {m : Mu} {g : Heap} {w : World} {a : Act} (f : FR m g w fr a) :
    ∃ u, (∀ w', (execOp a.eval o).run P w' = .ok (.value u) w') ∧ R m g w v u := by
  unfold floats at hf
  split at hf
  · rename_i y hop
    rw [hop] at hv
    simp only [opV] at hv
    obtain ⟨h1, _⟩ := map_pair hv
    exact ⟨a.eval y, fun w' => by simp only [execOp, hop, Sem.run_pure], ev_R f h1⟩
  · rename_i y i hop
    rw [hop] at hv
    simp only [opV] at hv
    split at hv
    · rename_i b hb
      obtain ⟨h1, _⟩ := map_pair hv
      have hx := ev_R f hb
      unfold extractV at h1
      split at h1
      · generalize hvy : a.eval y = vy at hx
        cases hx with
        | tup hl hr =>
          have hlt := (List.getElem?_eq_some_iff.1 h1).1
          rw [← hl] at hlt
          exact ⟨_, fun w' => by simp [execOp, hop, hvy, Instr.extract, hlt], hr i v _ h1 (Array.getElem?_eq_getElem hlt)⟩
      · cases h1
    · cases hv
  · rename_i op t y hop
    rw [hop] at hv
    simp only [opV] at hv
    split at hv
    · rename_i b hb
      obtain ⟨h1, _⟩ := map_pair hv
      have hx := ev_R f hb
      obtain ⟨p1, p2⟩ := unV_plain h1
      obtain ⟨u, hu, hru⟩ := un_ok (P := P) hx h1
      refine ⟨u, fun w' => ?_, hru⟩
      obtain ⟨u', hu', hru'⟩ := un_ok (P := P) (w := w') (hx.plain (m' := m) (h' := g) (w' := w') p1) h1
      rw [hru.plain_eq p2 hru']
      simp only [execOp, hop, Sem.run_bind, hu', Result.andThen_ok, Sem.run_pure]
    · cases hv
  · rename_i op t y z c hop
    split at hf
    · rename_i k ht
      rw [hop] at hv
      simp only [opV] at hv
      split at hv
      · rename_i b d hb hd
        obtain ⟨h1, _⟩ := map_pair hv
        have hx := ev_R f hb
        have hy := ev_R f hd
        obtain ⟨p1, p2, p3⟩ := binV_plain ht h1
        obtain ⟨u, hu, hru⟩ := bin_ok (P := P) (ox := y) (oy := z) hx hy h1
        refine ⟨u, fun w' => ?_, hru⟩
        obtain ⟨u', hu', hru'⟩ := bin_ok (P := P) (ox := y) (oy := z) (w := w') (hx.plain (m' := m) (h' := g) (w' := w') p1) (hy.plain p2) h1
        rw [hru.plain_eq p3 hru']
        have : (execOp a.eval o) = (do let v ← (do eqGuard op t y z (a.eval y) (a.eval z); binOp op t (a.eval y) (a.eval z) : Sem Value); pure (.value v)) := by simp only [execOp, hop]
        rw [this, Sem.run_bind, hu']
        rfl
      · cases hv
    · cases hf
  · rename_i args tys hop
    rw [hop] at hv
    simp only [opV] at hv
    split at hv
    · cases hv
    · rename_i vs hvs
      obtain ⟨h1, _⟩ := map_pair hv
      obtain ⟨hl, hr⟩ := evAll_R f hvs
      obtain ⟨hpl, hpy⟩ := maxV_plain h1
      have hres : ∀ (d : Sem Next), (execOp a.eval o) = (do let d ← resolve a.eval { callee := .builtin .max, args := args, argTypes := tys } o.type; invoke d.target d.args) := fun _ => by simp only [execOp, hop]
      have hex : (execOp a.eval o) = (do let v ← Builtin.max_ tys o.type (args.map a.eval); pure (.value v)) := by
        rw [hres (pure .skip)]; rfl
      have ha : (args.toList.map a.eval).toArray = args.map a.eval := by apply Array.ext'; simp
      obtain ⟨u, hu, hru⟩ := max_ok (P := P) (ts := tys) (ty := o.type) (by simpa using hl) hr h1
      refine ⟨u, fun w' => ?_, hru⟩
      obtain ⟨u', hu', hru'⟩ := max_ok (P := P) (ts := tys) (ty := o.type) (w := w') (m := m) (h := g) (by simpa using hl) (fun i c v hc hv => (hr i c v hc hv).plain (hpl c (List.mem_of_getElem? hc))) h1
      rw [hru.plain_eq hpy hru', hex, Sem.run_bind, ← ha, hu']
      rfl
  · rename_i args tys hop
    rw [hop] at hv
    simp only [opV] at hv
    split at hv
    · cases hv
    · rename_i vs hvs
      obtain ⟨h1, _⟩ := map_pair hv
      obtain ⟨hl, hr⟩ := evAll_R f hvs
      obtain ⟨hpl, hpy⟩ := minV_plain h1
      have hres : ∀ (d : Sem Next), (execOp a.eval o) = (do let d ← resolve a.eval { callee := .builtin .min, args := args, argTypes := tys } o.type; invoke d.target d.args) := fun _ => by simp only [execOp, hop]
      have hex : (execOp a.eval o) = (do let v ← Builtin.min_ tys o.type (args.map a.eval); pure (.value v)) := by
        rw [hres (pure .skip)]; rfl
      have ha : (args.toList.map a.eval).toArray = args.map a.eval := by apply Array.ext'; simp
      obtain ⟨u, hu, hru⟩ := min_ok (P := P) (ts := tys) (ty := o.type) (by simpa using hl) hr h1
      refine ⟨u, fun w' => ?_, hru⟩
      obtain ⟨u', hu', hru'⟩ := min_ok (P := P) (ts := tys) (ty := o.type) (w := w') (m := m) (h := g) (by simpa using hl) (fun i c v hc hv => (hr i c v hc hv).plain (hpl c (List.mem_of_getElem? hc))) h1
      rw [hru.plain_eq hpy hru', hex, Sem.run_bind, ← ha, hu']
      rfl
  · rename_i args tys hop
    obtain ⟨t, rfl⟩ := lenFl_inv hf
    rw [hop] at hv
    simp only [opV] at hv
    split at hv
    · cases hv
    · rename_i vs hvs
      match vs, hvs, hv with
      | [x], hvs, hv =>
        obtain ⟨h1, _⟩ := map_pair hv
        obtain ⟨hl, hr⟩ := evAll_R f hvs
        have hres : ∀ (d : Sem Next), (execOp a.eval o) = (do let d ← resolve a.eval { callee := .builtin .len, args := args, argTypes := #[t] } o.type; invoke d.target d.args) := fun _ => by simp only [execOp, hop]
        have hex : (execOp a.eval o) = (do let v ← Builtin.len_ #[t] o.type (args.map a.eval); pure (.value v)) := by
          rw [hres (pure .skip)]; rfl
        have ha : (args.toList.map a.eval).toArray = args.map a.eval := by apply Array.ext'; simp
        obtain ⟨xv, hxv⟩ : ∃ xv, args.toList.map a.eval = [xv] := by
          generalize args.toList.map a.eval = l at hl
          match l, hl with
          | [xv], _ => exact ⟨xv, rfl⟩
        rw [hxv] at ha hr
        obtain ⟨u, hu, hru⟩ := len_okF (P := P) (ty := o.type) (hr 0 x xv rfl rfl) h1
        exact ⟨u, fun w' => by rw [hex, Sem.run_bind, ← ha, hu w']; rfl, hru⟩
      | [], _, hv => cases hv
      | _ :: _ :: _, _, hv => cases hv
  · cases hf
end
end Go.Ab
namespace Go.Ab
variable [Base]
def stS (E : Nat → Eff) (st0 : List V × Heap) (S : Nat → Bool) : Nat → List V × Heap
  | 0 => st0
  | n + 1 => if S n = true then appE (stS E st0 S n) (E n) else stS E st0 S n
theorem stS_congr {E : Nat → Eff} {st0 : List V × Heap} {S T : Nat → Bool} : ∀ n, (∀ j, j < n → S j = T j) → stS E st0 S n = stS E st0 T n
  | 0, _ => rfl
  | n + 1, h => by rw [stS, stS, h n (by omega), stS_congr n fun j hj => h j (by omega)]
theorem stS_below {E : Nat → Eff} {st0 : List V × Heap} {i : Nat} : ∀ n, i ≤ n → stS E st0 (fun j => decide (j < i)) n = stS E st0 (fun _ => true) i
  | 0, h => by obtain rfl : i = 0 := by omega
               rfl
  | n + 1, h => by
    by_cases hi : i = n + 1
    · subst hi
      exact stS_congr _ fun j hj => by simp [hj]
    · rw [stS, if_neg (by simp; omega), stS_below n (by omega)]
theorem put_slot {fr : List V} {d : Option Tmp} {v : V} {s : Nat} (h : d ≠ some s) : (put fr d v)[s]? = fr[s]? := by
  cases d with
  | none => rfl
  | some d => exact List.getElem?_set_ne (fun e => h (by rw [e]))
theorem put_len {fr : List V} {d : Option Tmp} {v : V} : (put fr d v).length = fr.length := by
  cases d with
  | none => rfl
  | some d => exact List.length_set
theorem stS_len {E : Nat → Eff} {st0 : List V × Heap} {S : Nat → Bool} : ∀ n, (stS E st0 S n).1.length = st0.1.length
  | 0 => rfl
  | n + 1 => by
    rw [stS]
    split
    · exact put_len.trans (stS_len n)
    · exact stS_len n
theorem stS_slot {E : Nat → Eff} {st0 : List V × Heap} {S T : Nat → Bool} {s : Nat} : ∀ n, (∀ j, j < n → (E j).1 = some s → S j = T j) → (stS E st0 S n).1[s]? = (stS E st0 T n).1[s]?
  | 0, _ => rfl
  | n + 1, h => by
    have ih := stS_slot (E := E) (st0 := st0) n fun j hj => h j (by omega)
    have hl1 := stS_len (E := E) (st0 := st0) (S := S) n
    have hl2 := stS_len (E := E) (st0 := st0) (S := T) n
    rw [stS, stS]
    by_cases hd : (E n).1 = some s
    · rw [h n (by omega) hd]
      split
      · simp only [appE, hd, put]
        by_cases hs : s < st0.1.length
        · rw [List.getElem?_set_self (by omega), List.getElem?_set_self (by omega)]
        · rw [List.getElem?_eq_none (by simp; omega), List.getElem?_eq_none (by simp; omega)]
      · exact ih
    · have h1 : ∀ st, (appE st (E n)).1[s]? = st.1[s]? := fun st => put_slot hd
      by_cases hS : S n = true <;> by_cases hT : T n = true
      · rw [if_pos hS, if_pos hT, h1, h1]; exact ih
      · rw [if_pos hS, if_neg hT, h1]; exact ih
      · rw [if_neg hS, if_pos hT, h1]; exact ih
      · rw [if_neg hS, if_neg hT]; exact ih
theorem isMap_set {cs : List V} {k : Nat} {u : V} (hu : u.leaf = true) (hc : isMap cs = false) : isMap (cs.set k u) = false := by
  cases cs with
  | nil => rfl
  | cons c cs =>
    cases k with
    | zero => cases u <;> first | rfl | (simp [V.leaf] at hu; done)
    | succ k => cases c <;> first | rfl | (simp [isMap] at hc; done)
theorem blockOf_setC {h : Heap} {b k : Nat} {u : V} (hu : u.leaf = true) {c : Nat} : blockOf (setC h b k u) c = if c = b then (blockOf h b).map (fun cs => cs.set k u) else blockOf h c := by
  unfold setC
  cases hb : blockOf h b with
  | none =>
    by_cases e : c = b
    · subst e; simp [hb]
    · simp [e]
  | some cs =>
    have hlt : b < h.length := (List.getElem?_eq_some_iff.1 (live_of_blockOf hb)).1
    by_cases e : c = b
    · subst e
      simp [blockOf, List.getElem?_set_self hlt, isMap_set hu (notMap_of_blockOf hb)]
    · simp only [if_neg e]
      unfold blockOf
      rw [List.getElem?_set_ne (fun h => e h.symm)]
theorem setC_none {h : Heap} {b k c : Nat} {u : V} (hc : blockOf h c = none) : (setC h b k u)[c]? = h[c]? := by
  unfold setC
  split
  · rename_i cs hb
    exact List.getElem?_set_ne (fun e => by subst e; rw [hb] at hc; cases hc)
  · rfl
theorem setC_comm {h : Heap} {b k b' k' : Nat} {u u' : V} (hu : u.leaf = true) (hu' : u'.leaf = true) (hne : (b, k) ≠ (b', k')) : setC (setC h b k u) b' k' u' = setC (setC h b' k' u') b k u := by
  apply List.ext_getElem?
  intro c
  cases hc : blockOf h c with
  | none =>
    have n1 : blockOf (setC h b k u) c = none := by
      rw [blockOf_setC hu]
      split
      · rename_i e; rw [← e, hc]; rfl
      · exact hc
    have n2 : blockOf (setC h b' k' u') c = none := by
      rw [blockOf_setC hu']
      split
      · rename_i e; rw [← e, hc]; rfl
      · exact hc
    rw [setC_none n1, setC_none hc, setC_none n2, setC_none hc]
  | some cs =>
    have e1 : blockOf (setC (setC h b k u) b' k' u') c = blockOf (setC (setC h b' k' u') b k u) c := by
      simp only [blockOf_setC hu, blockOf_setC hu']
      by_cases h1 : c = b <;> by_cases h2 : c = b'
      · subst h1
        subst h2
        have hk : k ≠ k' := fun e => hne (by rw [e])
        simp [hc, List.set_comm _ _ hk]
      · subst h1
        simp [h2, hc]
      · subst h2
        simp [h1, hc]
      · simp [h1, h2]
    obtain ⟨d, hd⟩ : ∃ d, blockOf (setC (setC h b k u) b' k' u') c = some d := by
      rw [blockOf_setC hu']
      split
      · rename_i e
        subst e
        rw [blockOf_setC hu]
        split
        · rename_i e; subst e; rw [hc]; exact ⟨_, rfl⟩
        · rw [hc]; exact ⟨_, rfl⟩
      · rw [blockOf_setC hu]
        split
        · rename_i e; subst e; rw [hc]; exact ⟨_, rfl⟩
        · exact ⟨_, hc⟩
    rw [live_of_blockOf hd, live_of_blockOf (e1 ▸ hd)]
def ComE (x y : Eff) : Prop := (x.1 = none ∨ x.1 ≠ y.1) ∧ (∀ b k u, x.2.2 = some (b, k, u) → u.leaf = true) ∧ (∀ b k u, y.2.2 = some (b, k, u) → u.leaf = true) ∧ ∀ b k u b' k' u', x.2.2 = some (b, k, u) → y.2.2 = some (b', k', u') → (b, k) ≠ (b', k')
theorem appE_comm {x y : Eff} (h : ComE x y) (st : List V × Heap) : appE (appE st x) y = appE (appE st y) x := by
  obtain ⟨xd, xv, xw⟩ := x
  obtain ⟨yd, yv, yw⟩ := y
  obtain ⟨h1, h2, h3, h4⟩ := h
  simp only at h1 h2 h3 h4
  refine Prod.ext ?_ ?_
  · simp only [appE]
    cases xd with
    | none => rfl
    | some d =>
      cases yd with
      | none => rfl
      | some d' =>
        have : d ≠ d' := fun e => by rcases h1 with h | h; cases h; exact h (by rw [e])
        exact List.set_comm _ _ this
  · simp only [appE]
    cases xw with
    | none => cases yw <;> rfl
    | some p =>
      cases yw with
      | none => rfl
      | some q =>
        obtain ⟨b, k, u⟩ := p
        obtain ⟨b', k', u'⟩ := q
        exact setC_comm (h2 _ _ _ rfl) (h3 _ _ _ rfl) (h4 _ _ _ _ _ _ rfl rfl)
theorem stS_add {E : Nat → Eff} {st0 : List V × Heap} {S : Nat → Bool} {i : Nat} (hS : S i = false) : ∀ n, i < n → (∀ j, i < j → j < n → ComE (E i) (E j)) → stS E st0 (addTo S i) n = appE (stS E st0 S n) (E i)
  | 0, h, _ => absurd h (by omega)
  | n + 1, h, hc => by
    by_cases hi : i = n
    · subst hi
      rw [stS, stS, addTo_self, if_pos rfl, if_neg (by rw [hS]; simp)]
      congr 1
      exact stS_congr _ fun j hj => addTo_ne (by omega)
    · have ih := stS_add (E := E) (st0 := st0) hS n (by omega) fun j h1 h2 => hc j h1 (by omega)
      rw [stS, stS, addTo_ne (fun e => hi e.symm), ih]
      split
      · exact appE_comm (hc n (by omega) (by omega)) _
      · rfl
def lenB (h : Heap) (b : Nat) : Option Nat := (blockOf h b).map List.length
def cellB (h : Heap) (b k : Nat) : Option V := (blockOf h b).bind fun cs => cs[k]?
theorem lenB_app {st : List V × Heap} {e : Eff} (he : ∀ b k u, e.2.2 = some (b, k, u) → u.leaf = true) (b : Nat) : lenB (appE st e).2 b = lenB st.2 b := by
  obtain ⟨d, v, w⟩ := e
  cases w with
  | none => rfl
  | some p =>
    obtain ⟨b', k, u⟩ := p
    simp only [appE, lenB, blockOf_setC (he _ _ _ rfl)]
    split
    · rename_i e
      subst e
      cases blockOf st.2 b <;> simp
    · rfl
theorem cellB_app {st : List V × Heap} {e : Eff} (he : ∀ b k u, e.2.2 = some (b, k, u) → u.leaf = true) {b k : Nat} (hn : ∀ u, e.2.2 ≠ some (b, k, u)) : cellB (appE st e).2 b k = cellB st.2 b k := by
  obtain ⟨d, v, w⟩ := e
  cases w with
  | none => rfl
  | some p =>
    obtain ⟨b', k', u⟩ := p
    simp only [appE, cellB, blockOf_setC (he _ _ _ rfl)]
    split
    · rename_i e
      subst e
      have hk : k' ≠ k := fun e => hn u (by rw [e])
      cases blockOf st.2 b <;> simp [List.getElem?_set_ne hk]
    · rfl
theorem stS_lenB {E : Nat → Eff} {st0 : List V × Heap} {S : Nat → Bool} (he : ∀ j b k u, (E j).2.2 = some (b, k, u) → u.leaf = true) (b : Nat) : ∀ n, lenB (stS E st0 S n).2 b = lenB st0.2 b
  | 0 => rfl
  | n + 1 => by
    rw [stS]
    split
    · rw [lenB_app (he n)]; exact stS_lenB he b n
    · exact stS_lenB he b n
theorem stS_cellB {E : Nat → Eff} {st0 : List V × Heap} {S : Nat → Bool} (he : ∀ j b k u, (E j).2.2 = some (b, k, u) → u.leaf = true) {b k : Nat} : ∀ n, (∀ j u, j < n → (E j).2.2 ≠ some (b, k, u)) → cellB (stS E st0 S n).2 b k = cellB st0.2 b k
  | 0, _ => rfl
  | n + 1, h => by
    rw [stS]
    split
    · rw [cellB_app (he n) fun u => h n u (by omega)]; exact stS_cellB he n fun j u hj => h j u (by omega)
    · exact stS_cellB he n fun j u hj => h j u (by omega)
section
variable {P : Program} {cfg : Cfg}
theorem load_cell {t : TypeId} {h g : Heap} {x v : V} (hv : loadV P h t x = some v) (hl : v.leaf = true) (hc : ∀ b k, x = .ptr b k → cellB g b k = cellB h b k ∧ lenB g b = lenB h b) : loadV P g t x = some v := by
  unfold loadV at hv ⊢
  cases x <;> simp only at hv ⊢
  case ptr b k =>
    obtain ⟨h1, h2⟩ := hc b k rfl
    cases hb : blockOf h b with
    | none => rw [hb] at hv; cases hv
    | some cs =>
      rw [hb] at hv
      simp only [cellB, lenB, hb] at h1 h2
      cases hg : blockOf g b with
      | none => rw [hg] at h2; cases h2
      | some cs' =>
        rw [hg] at h1
        simp only [Option.bind_some] at h1
        simp only at hv ⊢
        unfold part at hv ⊢
        cases ha : isAg P t with
        | none => rw [ha] at hv; cases hv
        | some q =>
          rw [ha] at hv
          cases q with
          | false => exact h1.trans hv
          | true =>
            simp only at hv
            split at hv
            · split at hv
              · cases hv; cases hl
              · cases hv
            · cases hv
  all_goals exact hv
theorem store_cell {t : TypeId} {h g h' : Heap} {b k : Nat} {u : V} (hu : u.leaf = true) (hv : storeV P cfg h t (.ptr b k) u = some h') (hl : lenB g b = lenB h b) : h' = setC h b k u ∧ storeV P cfg g t (.ptr b k) u = some (setC g b k u) := by
  have hcu : cellsOf u = some [u] := by cases u <;> first | rfl | (simp [V.leaf] at hu; done)
  unfold storeV at hv ⊢
  cases hs : szOf P t with
  | none => rw [hs] at hv; cases hv
  | some s =>
    rw [hs, hcu] at hv
    rw [hcu]
    simp only at hv ⊢
    split at hv
    · rename_i hls
      rw [if_pos hls]
      unfold storeCellsV at hv ⊢
      cases hb : blockOf h b with
      | none => rw [hb] at hv; cases hv
      | some cs =>
        rw [hb] at hv
        simp only [lenB, hb, Option.map_some] at hl
        cases hg : blockOf g b with
        | none => rw [hg] at hl; cases hl
        | some cs' =>
          rw [hg] at hl
          simp only [Option.map_some, Option.some.injEq] at hl
          simp only at hv ⊢
          split at hv
          · rename_i hcond
            rw [← hl] at hcond
            rw [if_pos hcond]
            cases hv
            exact ⟨by simp [setC, hb, putAt], by simp [setC, hg, putAt]⟩
          · cases hv
    · cases hv
theorem step_S {o : Oper} {fr f : List V} {h g h' : Heap} {v : V} {e : Eff} (hk : sOp o = true) (hv : opV P cfg fr h o.op = some (v, h')) (he : effS fr o v = some e)
    (hf : ∀ p ∈ o.op.operands.toList, ev f p = ev fr p) (hl : ∀ b k w, accS fr o = some (w, b, k) → lenB g b = lenB h b ∧ (w = false → cellB g b k = cellB h b k)) :
    e.1 = o.dst ∧ e.2.1 = v ∧ h' = (appE (fr, h) e).2 ∧ opV P cfg f g o.op = some (v, (appE (f, g) e).2) ∧ ∀ b k u, e.2.2 = some (b, k, u) → u.leaf = true ∧ accS fr o = some (true, b, k) := by
  unfold sOp at hk
  split at hk
  · rename_i x hop
    rw [hop] at hv hf
    unfold effS at he
    rw [hop] at he
    cases he
    have e1 := hf x (by simp [Op.operands])
    simp only [opV] at hv
    obtain ⟨h1, rfl⟩ := map_pair hv
    exact ⟨rfl, rfl, rfl, by rw [hop]; simp only [opV, e1, h1]; rfl, fun _ _ _ h => by cases h⟩
  · rename_i s x q hop
    rw [hop] at hv hf
    unfold effS at he
    rw [hop] at he
    cases he
    have e1 := hf x (by simp [Op.operands])
    simp only [opV] at hv
    split at hv
    · rename_i a ha
      obtain ⟨h1, rfl⟩ := map_pair hv
      exact ⟨rfl, rfl, rfl, by rw [hop]; simp only [opV, e1, ha, h1]; rfl, fun _ _ _ h => by cases h⟩
    · cases hv
  · rename_i s x q hop
    rw [hop] at hv hf
    unfold effS at he
    rw [hop] at he
    cases he
    have e1 := hf x (by simp [Op.operands])
    have e2 := hf q (by simp [Op.operands])
    simp only [opV] at hv
    split at hv
    · rename_i a b ha hb
      obtain ⟨h1, rfl⟩ := map_pair hv
      exact ⟨rfl, rfl, rfl, by rw [hop]; simp only [opV, e1, e2, ha, hb, h1]; rfl, fun _ _ _ h => by cases h⟩
    · cases hv
  · rename_i s x hop
    rw [hop] at hv hf
    unfold effS at he
    unfold accS at hl
    rw [hop] at he hl
    simp only at he hl
    split at he
    · rename_i hlf
      cases he
      have e1 := hf x (by simp [Op.operands])
      simp only [opV] at hv
      split at hv
      · rename_i a ha
        obtain ⟨h1, rfl⟩ := map_pair hv
        refine ⟨rfl, rfl, rfl, ?_, fun _ _ _ h => by cases h⟩
        rw [hop]
        simp only [opV, e1, ha]
        rw [load_cell (g := g) h1 hlf fun b k hx => by
          subst hx
          rw [ha] at hl
          have := hl b k false rfl
          exact ⟨this.2 rfl, this.1⟩]
        rfl
      · cases hv
    · cases he
  · rename_i s x q hop
    rw [hop] at hv hf
    have hacc : accS fr o = match ev fr x with | some (.ptr b k) => some (true, b, k) | _ => none := by unfold accS; rw [hop]; rfl
    unfold effS at he
    rw [hop] at he
    simp only at he
    have e1 := hf x (by simp [Op.operands])
    have e2 := hf q (by simp [Op.operands])
    split at he
    · rename_i b k u ha hb
      split at he
      · rename_i hlf
        cases he
        rw [ha] at hacc
        have hlb := (hl b k true hacc).1
        simp only [opV, ha, hb] at hv
        split at hv
        · rename_i h2 hst
          cases hv
          obtain ⟨g1, g2⟩ := store_cell (g := g) hlf hst hlb
          refine ⟨rfl, rfl, g1, ?_, fun _ _ _ h => by cases h; exact ⟨hlf, hacc⟩⟩
          rw [hop]
          simp only [opV, e1, e2, ha, hb, g2]
          rfl
        · cases hv
      · cases he
    · cases he
  · rename_i bo s x q c hop
    rw [hop] at hv hf
    unfold effS at he
    rw [hop] at he
    cases he
    have e1 := hf x (by simp [Op.operands])
    have e2 := hf q (by simp [Op.operands])
    simp only [opV] at hv
    split at hv
    · rename_i a b ha hb
      obtain ⟨h1, rfl⟩ := map_pair hv
      exact ⟨rfl, rfl, rfl, by rw [hop]; simp only [opV, e1, e2, ha, hb, h1]; rfl, fun _ _ _ h => by cases h⟩
    · cases hv
  · cases hk
theorem run_S : ∀ (l : List Oper) (st : List V × Heap) (acc : List (Option (Bool × Nat × Nat))) (E : List Eff), runS P cfg l st acc = some E → E.length = l.length ∧
    ∀ i o, l[i]? = some o → ∃ v h' e, E[i]? = some e ∧ opV P cfg ((E.take i).foldl appE st).1 ((E.take i).foldl appE st).2 o.op = some (v, h') ∧ effS ((E.take i).foldl appE st).1 o v = some e ∧
      (∀ y ∈ acc, okAcc (accS ((E.take i).foldl appE st).1 o) [y] = true) ∧ ∀ j o', j < i → l[j]? = some o' → okAcc (accS ((E.take i).foldl appE st).1 o) [accS ((E.take j).foldl appE st).1 o'] = true
  | [], st, acc, E, h => by cases h; exact ⟨rfl, fun i o ho => by simp at ho⟩
  | o :: r, st, acc, E, h => by
    unfold runS at h
    split at h
    · rename_i v h' hv
      split at h
      · rename_i e he
        split at h
        · rename_i hok
          obtain ⟨E', hE', rfl⟩ := Option.map_eq_some_iff.1 h
          obtain ⟨hl, ih⟩ := run_S r (appE st e) _ E' hE'
          have hone : ∀ y ∈ acc, okAcc (accS st.1 o) [y] = true := fun y hy => by
            have := List.all_eq_true.1 hok y hy
            simpa [okAcc] using this
          refine ⟨by simp [hl], fun i q hq => ?_⟩
          cases i with
          | zero =>
            cases hq
            exact ⟨v, h', e, rfl, hv, he, hone, fun j _ hj => absurd hj (by omega)⟩
          | succ i =>
            obtain ⟨v2, h2, e2, g1, g2, g3, g4, g5⟩ := ih i q (by simpa using hq)
            refine ⟨v2, h2, e2, by simpa using g1, g2, g3, fun y hy => g4 y (List.mem_append_left _ hy), fun j o' hj ho' => ?_⟩
            cases j with
            | zero => cases ho'; exact g4 _ (by simp)
            | succ j => exact g5 j o' (by omega) (by simpa using ho')
        · cases h
      · cases h
    · cases h
theorem fold_stS {E : List Eff} {st0 : List V × Heap} : ∀ n, n ≤ E.length → (E.take n).foldl appE st0 = stS (fun i => E.getD i (none, .no, none)) st0 (fun _ => true) n
  | 0, _ => rfl
  | n + 1, h => by
    have e1 : E.take (n + 1) = E.take n ++ [E[n]] := by rw [List.take_add_one, List.getElem?_eq_getElem (by omega)]; rfl
    have e2 : E.getD n ((none, .no, none) : Eff) = E[n] := by rw [List.getD_eq_getElem?_getD, List.getElem?_eq_getElem (by omega)]; rfl
    rw [e1, List.foldl_append, stS, if_pos rfl, ← fold_stS n (by omega), e2]
    rfl
theorem dsts_of {l : List Oper} (h : dstsOK l = true) : ∀ (i j : Nat) (oi oj : Oper), i < j → l[i]? = some oi → l[j]? = some oj → oi.dst = none ∨ oi.dst ≠ oj.dst := by
  induction l with
  | nil => intro i j oi oj _ hi; simp at hi
  | cons o r ih =>
    simp only [dstsOK, Bool.and_eq_true] at h
    intro i j oi oj hij hi hj
    cases j with
    | zero => exact absurd hij (by omega)
    | succ j =>
      cases i with
      | zero =>
        cases hi
        have := List.all_eq_true.1 h.1 oj (List.mem_of_getElem? (by simpa using hj))
        simp only [Bool.or_eq_true, Option.isNone_iff_eq_none, bne_iff_ne] at this
        rcases this with h | h
        · exact .inl h
        · exact .inr (Ne.symm h)
      | succ i => exact ih h.2 i j oi oj (by omega) (by simpa using hi) (by simpa using hj)
theorem okAcc_ne {x y : Bool × Nat × Nat} (h : okAcc (some x) [some y] = true) (hw : x.1 = true ∨ y.1 = true) : x.2 ≠ y.2 := by
  obtain ⟨w, c⟩ := x
  obtain ⟨w', c'⟩ := y
  simp only [okAcc, List.all_cons, List.all_nil, Bool.and_true, Bool.or_eq_true, Bool.not_eq_true', decide_eq_true_eq] at h
  simp only at hw ⊢
  rcases h with h | h
  · rcases hw with e | e <;> rw [e] at h <;> simp at h
  · exact h
end
section
variable {P : Program}
theorem drawS_ok {md : FuncId → Nat} {call : Callf} (hm : P.follows .mixedOrders = true) (hN : Named P) (hcall : CallOK P call) {cfg : Cfg} {ops : Array Oper} {fr : List V} {h : Heap} {fr' : List V} {h' : Heap} (hs : sOK P ops = true) (hd : drawS P cfg ops fr h = some (fr', h')) :
    HS cfg h h' ∧ ∀ m w a id, Rel m h w → FR m h w fr a → ∀ (Q : Exit → Act → World → Prop), (∀ a' w', After m h w fr' h' a' w' → Q .normal a' w') → (Code.region id ops true).wp P Q a w := by
  unfold sOK at hs
  simp only [Bool.and_eq_true] at hs
  obtain ⟨⟨⟨⟨hk, hg⟩, hdst⟩, -⟩, hok⟩ := hs
  have st := static_of_ok hok
  obtain ⟨E, hE, hEe⟩ := Option.map_eq_some_iff.1 hd
  obtain ⟨hlen, hrun⟩ := run_S _ _ _ _ hE
  have hn : E.length = ops.size := by simpa using hlen
  generalize hEn : (fun i => E.getD i ((none, .no, none) : Eff)) = En
  have hC : ∀ i, i ≤ ops.size → (E.take i).foldl appE (fr, h) = stS En (fr, h) (fun _ => true) i := fun i hi => by rw [← hEn]; exact fold_stS i (by omega)
  have hfin : stS En (fr, h) (fun _ => true) ops.size = (fr', h') := by
    rw [← hC _ (Nat.le_refl _), List.take_of_length_le (by omega)]
    exact hEe
  have hat : ∀ i o, ops[i]? = some o → ∃ v hh, opV P cfg (stS En (fr, h) (fun _ => true) i).1 (stS En (fr, h) (fun _ => true) i).2 o.op = some (v, hh) ∧ effS (stS En (fr, h) (fun _ => true) i).1 o v = some (En i) ∧
      ∀ j o', j < i → ops[j]? = some o' → okAcc (accS (stS En (fr, h) (fun _ => true) i).1 o) [accS (stS En (fr, h) (fun _ => true) j).1 o'] = true := fun i o ho => by
    have hi := (Array.getElem?_eq_some_iff.1 ho).1
    obtain ⟨v, hh, e, g1, g2, g3, _, g5⟩ := hrun i o (by simpa using ho)
    have hee : En i = e := by rw [← hEn]; simp only [List.getD_eq_getElem?_getD, g1, Option.getD_some]
    rw [hC i (by omega)] at g2 g3 g5
    refine ⟨v, hh, g2, by rw [hee]; exact g3, fun j o' hj ho' => ?_⟩
    have := g5 j o' hj (by simpa using ho')
    rw [hC j (by omega)] at this
    exact this
  have hself : ∀ i o, ops[i]? = some o → (En i).1 = o.dst ∧ (∀ b k u, (En i).2.2 = some (b, k, u) → u.leaf = true ∧ accS (stS En (fr, h) (fun _ => true) i).1 o = some (true, b, k)) := fun i o ho => by
    obtain ⟨v, hh, g2, g3, _⟩ := hat i o ho
    have hko := List.all_eq_true.1 hk o (List.mem_of_getElem? (by simpa using ho))
    obtain ⟨a1, _, _, _, a5⟩ := step_S (f := (stS En (fr, h) (fun _ => true) i).1) (g := (stS En (fr, h) (fun _ => true) i).2) hko g2 g3 (fun _ _ => rfl) fun _ _ _ _ => ⟨rfl, fun _ => rfl⟩
    exact ⟨a1, a5⟩
  have hleaf : ∀ j b k u, (En j).2.2 = some (b, k, u) → u.leaf = true := fun j b k u hj => by
    cases ho : ops[j]? with
    | none =>
      have : ops.size ≤ j := by simpa using ho
      rw [← hEn] at hj
      simp only [List.getD_eq_getElem?_getD] at hj
      rw [List.getElem?_eq_none (by omega)] at hj
      cases hj
    | some o => exact ((hself j o ho).2 b k u hj).1
  have hcom : ∀ i j, i < j → j < ops.size → ComE (En i) (En j) := fun i j hij hj => by
    have hoi : ops[i]? = some ops[i] := Array.getElem?_eq_getElem (by omega)
    have hoj : ops[j]? = some ops[j] := Array.getElem?_eq_getElem hj
    refine ⟨?_, hleaf i, hleaf j, fun b k u b' k' u' h1 h2 e => ?_⟩
    · rw [(hself i _ hoi).1, (hself j _ hoj).1]
      exact dsts_of hdst i j _ _ hij (by simpa using hoi) (by simpa using hoj)
    · obtain ⟨_, _, _, _, g5⟩ := hat j _ hoj
      have := g5 i _ hij hoi
      rw [((hself i _ hoi).2 b k u h1).2, ((hself j _ hoj).2 b' k' u' h2).2] at this
      exact okAcc_ne this (.inl rfl) e.symm
  have hstep : ∀ (S : Nat → Bool), Closed ops S → ∀ i o, ops[i]? = some o → S i = false → Ready S o → stepOp P md call cfg ops o (stS En (fr, h) S ops.size).1 (stS En (fr, h) S ops.size).2 = some ((stS En (fr, h) (addTo S i) ops.size).1, (stS En (fr, h) (addTo S i) ops.size).2) := fun S hcl i o ho hSi hr => by
    have hi := (Array.getElem?_eq_some_iff.1 ho).1
    have hko := List.all_eq_true.1 hk o (List.mem_of_getElem? (by simpa using ho))
    have hgo : o.guard = none := by simpa using List.all_eq_true.1 hg o (List.mem_of_getElem? (by simpa using ho))
    obtain ⟨v, hh, g2, g3, g5⟩ := hat i o ho
    have hci : stS En (fr, h) (fun _ => true) i = stS En (fr, h) (fun j => decide (j < i)) ops.size := (stS_below _ (by omega)).symm
    have hslot : ∀ s ∈ o.looksAt ops, (stS En (fr, h) S ops.size).1[s]? = (stS En (fr, h) (fun _ => true) i).1[s]? := fun s hs => by
      rw [hci]
      refine stS_slot _ fun j hj hdj => ?_
      have hoj : ops[j]? = some ops[j] := Array.getElem?_eq_getElem hj
      rw [(hself j _ hoj).1] at hdj
      rcases Nat.lt_trichotomy j i with hlt | rfl | hgt
      · rw [decide_eq_true hlt]
        rcases st.head j i _ o hlt hi hoj ho with h | ⟨h, _⟩
        · exact ord_listed st.back hcl i o ho hr h
        · exact absurd hs ((Oper.apart_spec h).1 s hdj)
      · rw [hSi]; simp
      · rw [decide_eq_false (by omega)]
        cases hSj : S j with
        | false => rfl
        | true =>
          rcases st.head i j o _ hgt hj ho hoj with h | ⟨h, _⟩
          · have := ord_listed st.back hcl j _ hoj (hcl j _ hoj hSj) h
            rw [hSi] at this; cases this
          · exact absurd hs ((Oper.apart_spec h).2.2 s hdj)
    obtain ⟨a1, a2, _, a4, _⟩ := step_S (f := (stS En (fr, h) S ops.size).1) (g := (stS En (fr, h) S ops.size).2) hko g2 g3 (fun p hp => (ev_congr hslot p hp)) fun b k w hacc => by
      refine ⟨by rw [stS_lenB hleaf, stS_lenB hleaf], fun hw => ?_⟩
      subst hw
      have hnw : ∀ j u, j < ops.size → (En j).2.2 ≠ some (b, k, u) := fun j u hj hw => by
        have hoj : ops[j]? = some ops[j] := Array.getElem?_eq_getElem hj
        have hA := ((hself j _ hoj).2 b k u hw).2
        rcases Nat.lt_trichotomy j i with hlt | rfl | hgt
        · have := g5 j _ hlt hoj
          rw [hacc, hA] at this
          exact okAcc_ne this (.inr rfl) rfl
        · rw [ho] at hoj
          rw [← Option.some.inj hoj, hacc] at hA
          cases hA
        · obtain ⟨_, _, _, _, q5⟩ := hat j _ hoj
          have := q5 i _ hgt ho
          rw [hacc, hA] at this
          exact okAcc_ne this (.inl rfl) rfl
      rw [stS_cellB hleaf _ hnw, stS_cellB hleaf _ fun j u hj => hnw j u (by omega)]
    have hnc : isCall o = false ∨ ∃ t x y, o.op = .store t x y := by
      unfold sOp at hko
      unfold isCall
      split at hko <;> rename_i hop <;> first
        | (left; rw [hop]; done)
        | (right; exact ⟨_, _, _, hop⟩)
        | (cases hko; done)
    have hop : opEv P md call cfg (stS En (fr, h) S ops.size).1 (stS En (fr, h) S ops.size).2 o.op = opV P cfg (stS En (fr, h) S ops.size).1 (stS En (fr, h) S ops.size).2 o.op := by
      rcases hnc with hnc | ⟨t, x, y, hop⟩
      · exact opEv_nocall hnc
      · rw [hop]; rfl
    have hadd := stS_add (E := En) (st0 := (fr, h)) hSi ops.size hi fun j h1 h2 => hcom i j h1 h2
    unfold stepOp wantd
    rw [hgo]
    simp only [hop, a4, hadd]
    rw [← a1, ← a2]
    rfl
  have hall : ∀ n, n ≤ ops.size → HS cfg h (stS En (fr, h) (fun j => decide (j < n)) ops.size).2 := by
    intro n
    induction n with
    | zero =>
      intro _
      have : stS En (fr, h) (fun j => decide (j < 0)) ops.size = (fr, h) := by rw [stS_below _ (Nat.zero_le _)]; rfl
      rw [this]
      exact .refl _ _
    | succ n ih =>
      intro hn1
      have hon : ops[n]? = some ops[n] := Array.getElem?_eq_getElem (by omega)
      have hcl : Closed ops fun j => decide (j < n) := fun i o ho hi e he hb => by
        have := st.back i o ho e he hb
        simp only [decide_eq_true_eq] at hi ⊢
        omega
      have h1 := hstep (fun j => decide (j < n)) hcl n _ hon (by simp) fun e he hb => by
        have := st.back n _ hon e he hb
        simp only [decide_eq_true_eq]
        omega
      have h2 := (stepOp_ok hN hcall h1).1
      have h3 : stS En (fr, h) (addTo (fun j => decide (j < n)) n) ops.size = stS En (fr, h) (fun j => decide (j < n + 1)) ops.size := stS_congr _ fun j _ => by
        unfold addTo
        by_cases hjn : j = n
        · subst hjn; simp
        · simp [hjn]; omega
      rw [h3] at h2
      exact (ih (by omega)).trans h2
  refine ⟨?_, fun m w a id r fR Q hQ => ?_⟩
  · have := hall ops.size (Nat.le_refl _)
    rw [stS_below _ (Nat.le_refl _), hfin] at this
    exact this
  · refine region_of_inv hm st.back (fun S a' w' => After m h w (stS En (fr, h) S ops.size).1 (stS En (fr, h) S ops.size).2 a' w') (fun S a' w' hJ hcl i o ho hS hr => ?_) (fun S a' w' hJ hall => ?_) ?_
    · obtain ⟨m', e', r', f'⟩ := hJ
      obtain ⟨_, hw2⟩ := stepOp_ok hN hcall (hstep S hcl i o ho hS hr)
      unfold wpOp
      rw [ho]
      simp only
      exact hw2 m' w' a' r' f' _ Q fun a2 w2 k2 => k2.trans e'
    · have : stS En (fr, h) S ops.size = (fr', h') := by rw [← hfin]; exact stS_congr _ fun j hj => hall j hj
      rw [this] at hJ
      exact hQ a' w' hJ
    · have : stS En (fr, h) (fun _ => false) ops.size = (fr, h) := by
        have h1 : ∀ n, stS En (fr, h) (fun _ => false) n = (fr, h) := by
          intro n
          induction n with
          | zero => rfl
          | succ n ih => rw [stS, if_neg (by simp), ih]
        exact h1 _
      rw [this]
      generalize hw1 : ({ w with drawn := w.drawn + 1 } : World) = w1
      have hh : w1.heap = w.heap := by rw [← hw1]
      have ho : w1.os = w.os := by rw [← hw1]
      have ht : w1.tape = w.tape := by rw [← hw1]
      have hu : w1.output = w.output := by rw [← hw1]
      have e1 : Evo m h w m h w1 := evo_heap hh ho ht hu
      exact ⟨m, e1, rel_heap r hh ho ht hu, fR.evo r e1⟩
end
end Go.Ab
namespace Go.Ab
set_option linter.unusedSectionVars false
variable [Base]
section
variable {P : Program} {md : FuncId → Nat} {call : Callf} {cfg : Cfg} {n0 : Nat}
theorem load_blk {t : TypeId} {h g : Heap} {a : V} (hb : ∀ b k, a = .ptr b k → g[b]? = h[b]?) : loadV P g t a = loadV P h t a := by
  unfold loadV
  cases a <;> simp only
  case ptr b k =>
    have : blockOf g b = blockOf h b := by unfold blockOf; rw [hb b k rfl]
    rw [this]
def KindO (P : Program) (md : FuncId → Nat) (call : Callf) (cfg : Cfg) (n0 : Nat) (o : Oper) (fr : List V) (h : Heap) (v : V) (h' : Heap) (x ld : List Nat) : Prop :=
  (isW o = false ∧ h' = h ∧ ∀ f g, (∀ p ∈ o.op.operands.toList, ev f p = ev fr p) → (isLd o = true → ∀ b ∈ ld, b < n0 → g[b]? = h[b]?) → opEv P md call cfg f g o.op = some (v, g)) ∨
  (isW o = true ∧ ∃ c : Cfg, opEv P md call c fr h o.op = some (v, h') ∧ HS cfg h h' ∧ (n0 ≤ h.length → ∀ b ∈ ld, b < n0 → (isSt o = true → ¬ b ∈ x) → h'[b]? = h[b]?))
theorem buildSlice_keep {t : TypeId} {n : Nat} {vs : List V} {h h' : Heap} {v : V} (hx : buildSliceV P h t n vs = some (v, h')) : ∀ b, b < h.length → h'[b]? = h[b]? := by
  intro b hb
  unfold buildSliceV at hx
  repeat' split at hx
  all_goals first
    | (cases hx; done)
    | (cases hx; exact List.getElem?_append_left hb)
theorem append_keep {t u : TypeId} {x : V} {h h' : Heap} {v : V} (hx : appendV P cfg h t u .nils x = some (v, h')) : ∀ b, b < h.length → h'[b]? = h[b]? := by
  intro b hb
  simp only [appendV] at hx
  repeat' split at hx
  all_goals first
    | (cases hx; done)
    | (cases hx; first | rfl | exact List.getElem?_append_left hb)
theorem slice_free {t : TypeId} {g h : Heap} {x : V} {lo hi : Option (Option V)} (hp : ∀ b k, x ≠ .ptr b k) : sliceV P g t x lo hi = sliceV P h t x lo hi := by
  unfold sliceV
  split <;> first | rfl | (rename_i b off _; exact absurd rfl (hp _ _))
theorem stepO_kind (hN : Named P) (hcall : CallOK P call) {o : Oper} {fr : List V} {h h' : Heap} {x ld x' ld' : List Nat} {v : V} (hk : oOp o = true) (hs : stepO P md call cfg n0 o fr h x ld = some (v, h', x', ld')) :
    (∀ b ∈ x, b ∈ x') ∧ (∀ b ∈ ld, b ∈ ld') ∧ ∀ X L : List Nat, (∀ b ∈ x', b ∈ X) → (∀ b ∈ ld', b ∈ L) → KindO P md call cfg n0 o fr h v h' X L := by
  unfold oOp at hk
  unfold stepO at hs
  split at hk
  case h_9 f args tys hop =>
    rw [hop] at hs
    simp only at hs
    split at hs
    · split at hs
      · rename_i hm
        split at hs
        · rename_i v1 h1 he
          simp only [Option.some.injEq, Prod.mk.injEq] at hs
          obtain ⟨rfl, rfl, rfl, rfl⟩ := hs
          rw [← hop] at he
          obtain ⟨-, hhs⟩ := opEv_ok hN hcall he
          refine ⟨fun _ hb => hb, fun _ hb => hb, fun X L _ _ => .inr ⟨by simp [isW, hop], _, he, ⟨hhs.len, fun b hb _ => hhs.prot b hb (by simp [Cfg.wr]; omega), fun D t _ h2 => hhs.inv D t h2 h2⟩, fun hn b _ hb0 _ => hhs.prot b (by omega) (by simp [Cfg.wr]; omega)⟩⟩
        · cases hs
      · cases hs
    · cases hs
  case h_11 t n ps hop =>
    rw [hop] at hs
    simp only at hs
    split at hs
    · rename_i v1 h1 he
      simp only [Option.some.injEq, Prod.mk.injEq] at hs
      obtain ⟨rfl, rfl, rfl, rfl⟩ := hs
      have he2 : opEv P md call cfg fr h o.op = some (v1, h1) := by rw [hop]; exact he
      obtain ⟨-, hhs⟩ := opEv_ok hN hcall he2
      refine ⟨fun _ hb => hb, fun _ hb => hb, fun X L _ _ => .inr ⟨by simp [isW, hop], _, he2, hhs, fun hn b _ hb0 _ => ?_⟩⟩
      simp only [opV] at he
      split at he
      · exact buildSlice_keep he b (by omega)
      · cases he
    · cases hs
  case h_12 args tys hop =>
    rw [hop] at hs
    simp only at hs
    split at hs
    · rename_i vs hvs
      split at hs
      · rename_i v1 h1 he
        simp only [Option.some.injEq, Prod.mk.injEq] at hs
        obtain ⟨rfl, rfl, rfl, rfl⟩ := hs
        have he2 : opEv P md call cfg fr h o.op = some (v1, h1) := by rw [hop]; exact he
        obtain ⟨-, hhs⟩ := opEv_ok hN hcall he2
        refine ⟨fun _ hb => hb, fun _ hb => hb, fun X L _ _ => .inr ⟨by simp [isW, hop], _, he2, hhs, fun hn b _ hb0 _ => ?_⟩⟩
        simp only [opV, hvs] at he
        split at he
        · cases ‹Builtin.append = _›
        · rename_i hq
          simp only [List.cons.injEq] at hq
          obtain ⟨rfl, rfl⟩ := hq
          exact append_keep he b (by omega)
        all_goals first | cases ‹Builtin.append = _› | cases he
      · cases hs
    · cases hs
  case h_10 t y lo hi hop =>
    rw [hop] at hs
    simp only at hs
    split at hs
    · cases hs
    · rename_i hnp
      split at hs
      · rename_i v1 h1 he
        simp only [Option.some.injEq, Prod.mk.injEq] at hs
        obtain ⟨rfl, rfl, rfl, rfl⟩ := hs
        refine ⟨fun _ hb => hb, fun _ hb => hb, fun X L _ _ => .inl ⟨by simp [isW, hop], ?_⟩⟩
        simp only [opV] at he
        split at he
        · rename_i a ha
          obtain ⟨h3, rfl⟩ := map_pair he
          refine ⟨rfl, fun f g hf _ => ?_⟩
          have e1 := hf y (by rw [hop]; simp [Op.operands])
          have e2 : lo.map (ev f) = lo.map (ev fr) := by
            cases lo with
            | none => rfl
            | some q => exact congrArg some (hf q (by rw [hop]; simp [Op.operands]))
          have e3 : hi.map (ev f) = hi.map (ev fr) := by
            cases hi with
            | none => rfl
            | some q => exact congrArg some (hf q (by rw [hop]; simp [Op.operands]))
          rw [hop]
          show opV P cfg f g (.slice t y lo hi none) = _
          simp only [opV, e1, ha, e2, e3]
          rw [slice_free (h := h1) fun b k e => hnp b k (by rw [ha, e]), h3]
          rfl
        · cases he
      · cases hs
  case h_6 t p y hop =>
    rw [hop] at hs
    simp only at hs
    split at hs
    · rename_i b k hp
      split at hs
      · rename_i v1 h1 he
        simp only [Option.some.injEq, Prod.mk.injEq] at hs
        obtain ⟨rfl, rfl, rfl, rfl⟩ := hs
        have he2 : opEv P md call cfg fr h o.op = some (v1, h1) := by rw [hop]; exact he
        obtain ⟨-, hhs⟩ := opEv_ok hN hcall he2
        refine ⟨fun _ hb => List.mem_cons_of_mem _ hb, fun _ hb => hb, fun X L hX _ => .inr ⟨by simp [isW, hop], _, he2, hhs, fun hn c hc hc0 hcx => ?_⟩⟩
        have hne : c ≠ b := fun e => hcx (by simp [isSt, hop]) (by rw [e]; exact hX b List.mem_cons_self)
        simp only [opV, hp] at he
        split at he
        · rename_i q z hq hz
          cases hq
          split at he
          · rename_i h2 hst
            cases he
            unfold storeV at hst
            split at hst
            · rename_i heq _ _
              cases heq
              split at hst
              · unfold storeCellsV at hst
                split at hst
                · split at hst
                  · cases hst
                    exact List.getElem?_set_ne (fun e => hne e.symm)
                  · cases hst
                · cases hst
              · cases hst
            · cases hst
          · cases he
        · cases he
      · cases hs
    · cases hs
  case h_5 t p hop =>
    rw [hop] at hs
    simp only at hs
    split at hs
    · rename_i v1 h1 he
      simp only [opV] at he
      split at he
      · rename_i a ha
        obtain ⟨h3, rfl⟩ := map_pair he
        have main : ∀ X L : List Nat, (∀ b k, a = .ptr b k → b ∈ L ∧ b < n0) → KindO P md call cfg n0 o fr h1 v1 h1 X L := fun X L hL => .inl ⟨by simp [isW, hop], rfl, fun f g hf hg => by
          have e1 := hf p (by rw [hop]; simp [Op.operands])
          rw [hop]
          show opV P cfg f g (.load t p) = _
          simp only [opV, e1, ha]
          rw [load_blk (h := h1) fun b k hb => hg (by simp [isLd, hop]) b (hL b k hb).1 (hL b k hb).2, h3]
          rfl⟩
        split at hs
        · rename_i b k hb
          rw [ha] at hb
          cases hb
          split at hs
          · rename_i hlt
            simp only [Option.some.injEq, Prod.mk.injEq] at hs
            obtain ⟨rfl, rfl, rfl, rfl⟩ := hs
            exact ⟨fun _ hb => hb, fun _ hb => List.mem_cons_of_mem _ hb, fun X L _ hL => (main X L fun c k' e => by cases e; exact ⟨hL _ List.mem_cons_self, hlt⟩)⟩
          · cases hs
        · rename_i hnp
          simp only [Option.some.injEq, Prod.mk.injEq] at hs
          obtain ⟨rfl, rfl, rfl, rfl⟩ := hs
          exact ⟨fun _ hb => hb, fun _ hb => hb, fun X L _ hL => (main X L fun c k' e => absurd (by rw [ha, e]) (hnp c k'))⟩
      · cases he
    · cases hs
  case h_13 => cases hk
  all_goals
    rename_i hop
    rw [hop] at hs
    simp only at hs
    split at hs
    · rename_i v1 h1 he
      simp only [Option.some.injEq, Prod.mk.injEq] at hs
      obtain ⟨rfl, rfl, rfl, rfl⟩ := hs
      refine ⟨fun _ hb => hb, fun _ hb => hb, fun X L _ _ => .inl ⟨by simp [isW, hop], ?_⟩⟩
      simp only [opV] at he
      repeat' split at he
      all_goals first
        | (cases he; done)
        | (obtain ⟨h3, rfl⟩ := map_pair he
           refine ⟨rfl, fun f g hf _ => ?_⟩
           rw [hop] at hf ⊢
           simp only [Op.operands, List.mem_cons, List.not_mem_nil, or_false, forall_eq_or_imp, forall_eq] at hf
           simp_all [opEv, opV])
    · cases hs
structure TrO (P : Program) (md : FuncId → Nat) (call : Callf) (cfg : Cfg) (n0 : Nat) (l : List Oper) (X L : List Nat) (F : Nat → List V) (H : Nat → Heap) (v : Nat → V) : Prop where
  fr : ∀ i o, l[i]? = some o → F (i + 1) = put (F i) o.dst (v i)
  kd : ∀ i o, l[i]? = some o → KindO P md call cfg n0 o (F i) (H i) (v i) (H (i + 1)) X L
theorem runO_tr (hN : Named P) (hcall : CallOK P call) : ∀ (l : List Oper) {fr fr' : List V} {h h' : Heap} {x ld x' ld' : List Nat}, l.all oOp = true → runO P md call cfg n0 l fr h x ld = some (fr', h', x', ld') →
    (∀ b ∈ x, b ∈ x') ∧ (∀ b ∈ ld, b ∈ ld') ∧ ∀ X L : List Nat, (∀ b ∈ x', b ∈ X) → (∀ b ∈ ld', b ∈ L) → ∃ F H v, F 0 = fr ∧ H 0 = h ∧ F l.length = fr' ∧ H l.length = h' ∧ TrO P md call cfg n0 l X L F H v
  | [], fr, fr', h, h', x, ld, x', ld', _, hr => by
    simp only [runO, Option.some.injEq, Prod.mk.injEq] at hr
    obtain ⟨rfl, rfl, rfl, rfl⟩ := hr
    exact ⟨fun _ hb => hb, fun _ hb => hb, fun X L _ _ => ⟨fun _ => fr, fun _ => h, fun _ => .no, rfl, rfl, rfl, rfl, ⟨fun i o ho => by simp at ho, fun i o ho => by simp at ho⟩⟩⟩
  | o :: r, fr, fr', h, h', x, ld, x', ld', hk, hr => by
    simp only [List.all_cons, Bool.and_eq_true] at hk
    unfold runO at hr
    split at hr
    · rename_i v1 h1 x1 ld1 hs
      obtain ⟨a1, a2, a3⟩ := stepO_kind hN hcall hk.1 hs
      obtain ⟨b1, b2, b3⟩ := runO_tr hN hcall r hk.2 hr
      refine ⟨fun b hb => b1 b (a1 b hb), fun b hb => b2 b (a2 b hb), fun X L hX hL => ?_⟩
      obtain ⟨F, H, v, c1, c2, c3, c4, c5⟩ := b3 X L hX hL
      have k1 := a3 X L (fun b hb => hX b (b1 b hb)) fun b hb => hL b (b2 b hb)
      refine ⟨fun i => if i = 0 then fr else F (i - 1), fun i => if i = 0 then h else H (i - 1), fun i => if i = 0 then v1 else v (i - 1), rfl, rfl, by simpa using c3, by simpa using c4, ⟨fun i q hq => ?_, fun i q hq => ?_⟩⟩
      · cases i with
        | zero => cases hq; simpa using c1
        | succ i => simpa using c5.fr i q (by simpa using hq)
      · cases i with
        | zero => cases hq; simpa [c2] using k1
        | succ i => simpa using c5.kd i q (by simpa using hq)
    · cases hr
def hpO (ops : Array Oper) (H : Nat → Heap) (S : Nat → Bool) : Nat → Heap
  | 0 => H 0
  | n + 1 => match ops[n]? with
    | some o => if S n = true ∧ isW o = true then H (n + 1) else hpO ops H S n
    | none => hpO ops H S n
theorem hpO_at {ops : Array Oper} {H : Nat → Heap} {S : Nat → Bool} {i : Nat} (hnc : ∀ j o, ops[j]? = some o → isW o = false → H (j + 1) = H j) (hlo : ∀ j o, j < i → ops[j]? = some o → isW o = true → S j = true) :
    ∀ n, (∀ j o, i ≤ j → j < n → ops[j]? = some o → isW o = true → S j = false) → i ≤ ops.size → n ≤ ops.size → hpO ops H S n = H (min i n)
  | 0, _, _, _ => by simp [hpO]
  | n + 1, hhi, hi, hn => by
    have ih := hpO_at hnc hlo n (fun j o h1 h2 => hhi j o h1 (by omega)) hi (by omega)
    have ho : ops[n]? = some ops[n] := Array.getElem?_eq_getElem (by omega)
    rw [hpO, ho]
    simp only
    by_cases hin : i ≤ n
    · rw [show min i (n + 1) = i by omega]
      rw [show min i n = i by omega] at ih
      split
      · rename_i hc
        have := hhi n _ hin (by omega) ho hc.2
        rw [hc.1] at this; cases this
      · exact ih
    · rw [show min i (n + 1) = n + 1 by omega]
      rw [show min i n = n by omega] at ih
      split
      · rfl
      · rename_i hc
        have : isW ops[n] = false := by
          cases hq : isW ops[n] with
          | false => rfl
          | true => exact absurd ⟨hlo n _ (by omega) ho hq, hq⟩ hc
        rw [ih, hnc n _ ho this]
theorem hpO_skip {ops : Array Oper} {H : Nat → Heap} {S T : Nat → Bool} (hST : ∀ j o, ops[j]? = some o → isW o = true → S j = T j) : ∀ n, hpO ops H S n = hpO ops H T n
  | 0 => rfl
  | n + 1 => by
    rw [hpO, hpO]
    cases ho : ops[n]? with
    | none => exact hpO_skip hST n
    | some o =>
      simp only
      by_cases hc : isW o = true
      · rw [hST n o ho hc, hpO_skip hST n]
      · simp only [hc, and_false, Bool.false_eq_true, if_false]
        exact hpO_skip hST n
theorem hpO_some {ops : Array Oper} {H : Nat → Heap} {S : Nat → Bool} : ∀ n, ∃ j, j ≤ n ∧ hpO ops H S n = H j ∧ (j = 0 ∨ ∃ i o, j = i + 1 ∧ ops[i]? = some o ∧ S i = true ∧ isW o = true) ∧ ∀ p o, j ≤ p → p < n → ops[p]? = some o → isW o = true → S p = false
  | 0 => ⟨0, Nat.le_refl _, rfl, .inl rfl, fun p o h1 h2 => by omega⟩
  | n + 1 => by
    obtain ⟨j, h1, h2, h3, h4⟩ := hpO_some (ops := ops) (H := H) (S := S) n
    rw [hpO]
    split
    · rename_i o ho
      split
      · rename_i hc
        exact ⟨n + 1, Nat.le_refl _, rfl, .inr ⟨n, o, rfl, ho, hc.1, hc.2⟩, fun p o h1 h2 => by omega⟩
      · rename_i hc
        refine ⟨j, by omega, h2, h3, fun p q k1 k2 k3 k4 => ?_⟩
        by_cases hp : p = n
        · subst hp
          rw [ho] at k3
          cases k3
          cases hS : S p with
          | false => rfl
          | true => exact absurd ⟨hS, k4⟩ hc
        · exact h4 p q k1 (by omega) k3 k4
    · rename_i ho
      refine ⟨j, by omega, h2, h3, fun p q k1 k2 k3 k4 => ?_⟩
      by_cases hp : p = n
      · subst hp
        rw [ho] at k3
        cases k3
      · exact h4 p q k1 (by omega) k3 k4
theorem store_same {c c' : Cfg} {t : TypeId} {p y : Operand} {fr : List V} {h : Heap} {a b : V × Heap} (h1 : opV P c fr h (.store t p y) = some a) (h2 : opV P c' fr h (.store t p y) = some b) : a = b := by
  simp only [opV] at h1 h2
  split at h1
  · rename_i q z hq hz
    rw [hq, hz] at h2
    simp only at h2
    unfold storeV at h1 h2
    cases q
    case ptr b k =>
      split at h1
      · rename_i g1 e1
        split at h2
        · rename_i g2 e2
          cases h1
          cases h2
          split at e1
          · rename_i heq hsz hcs
            cases heq
            rw [hsz, hcs] at e2
            simp only at e2
            split at e1
            · rename_i hl
              rw [if_pos hl] at e2
              unfold storeCellsV at e1 e2
              split at e1
              · rename_i hb
                rw [hb] at e2
                simp only at e2
                split at e1
                · split at e2
                  · cases e1; cases e2; rfl
                  · cases e2
                · cases e1
              · cases e1
            · cases e1
          · cases e1
        · cases h2
      · cases h1
    all_goals (simp at h1; done)
  · cases h1
theorem head_same {n1 : Nat} {ops : Array Oper} {o : Oper} {fr : List V} {h h1 h2 : Heap} {v1 v2 : V} {x ld x1 ld1 x' ld' x2 ld2 : List Nat} (hg : o.guard = none) (hk : oOp o = true) (ha : headStep P md call cfg n1 ops o fr h x ld = some (v1, h1, x1, ld1)) (hb : stepO P md call cfg n0 o fr h x' ld' = some (v2, h2, x2, ld2)) : v1 = v2 ∧ h1 = h2 := by
  unfold headStep wantd at ha
  rw [hg] at ha
  simp only at ha
  unfold oOp at hk
  unfold stepO at hb
  split at hk
  case h_9 f args tys hop =>
    rw [hop] at ha hb
    simp only at ha hb
    split at hb
    · rename_i g first captured hf
      split at hb
      · rename_i hm
        split at hb
        · rename_i he
          simp only [Option.some.injEq, Prod.mk.injEq] at hb
          obtain ⟨rfl, rfl, rfl, rfl⟩ := hb
          simp only [opEv, hf] at he
          rw [hf] at ha
          cases hvs : evAll fr args.toList with
          | none => rw [hvs] at he; cases he
          | some vs =>
            rw [hvs] at he ha
            simp only at he ha
            rcases hm with hm | hm | hm <;> rw [hm] at ha <;> simp only [he, Option.some.injEq, Prod.mk.injEq] at ha <;> exact ⟨ha.1.symm, ha.2.1.symm⟩
        · cases hb
      · cases hb
    · cases hb
  case h_6 t p y hop =>
    rw [hop] at ha hb
    simp only at ha hb
    split at hb
    · rename_i b k hp
      rw [hp] at ha
      simp only at ha
      split at hb
      · rename_i he
        simp only [Option.some.injEq, Prod.mk.injEq] at hb
        obtain ⟨rfl, rfl, rfl, rfl⟩ := hb
        split at ha
        · split at ha
          · rename_i he1
            simp only [Option.some.injEq, Prod.mk.injEq] at ha
            obtain ⟨rfl, rfl, rfl, rfl⟩ := ha
            have := store_same he1 he
            exact ⟨congrArg Prod.fst this, congrArg Prod.snd this⟩
          · cases ha
        · cases ha
      · cases hb
    · cases hb
  case h_5 t p hop =>
    rw [hop] at ha hb
    simp only at ha hb
    split at ha
    · split at ha
      · rename_i he1
        rw [he1] at hb
        simp only [Option.some.injEq, Prod.mk.injEq] at ha
        obtain ⟨rfl, rfl, rfl, rfl⟩ := ha
        simp only at hb
        repeat' split at hb
        all_goals first
          | (cases hb; done)
          | (simp only [Option.some.injEq, Prod.mk.injEq] at hb; exact ⟨hb.1, hb.2.1⟩)
      · cases ha
    · cases ha
  case h_13 => cases hk
  all_goals
    rename_i hop
    rw [hop] at ha hb
    simp only at ha hb
    split at ha
    · rename_i hh
      first
      | (simp [headOp] at hh; done)
      | (split at ha
         · rename_i he1
           rw [he1] at hb
           simp only [Option.some.injEq, Prod.mk.injEq] at ha
           obtain ⟨rfl, rfl, rfl, rfl⟩ := ha
           simp only at hb
           repeat' split at hb
           all_goals first
             | (cases hb; done)
             | (simp only [Option.some.injEq, Prod.mk.injEq] at hb; exact ⟨hb.1, hb.2.1⟩)
         · cases ha)
    · cases ha
theorem tail_same {ops : Array Oper} {o : Oper} {fr fr1 : List V} {h h1 h2 : Heap} {v2 : V} {x' ld' x2 ld2 : List Nat} (hg : o.guard = none) (hv : vcallB o = false) (ha : stepOp P md call cfg ops o fr h = some (fr1, h1)) (hb : stepO P md call cfg n0 o fr h x' ld' = some (v2, h2, x2, ld2)) : fr1 = put fr o.dst v2 ∧ h1 = h2 := by
  unfold stepOp wantd at ha
  rw [hg] at ha
  simp only at ha
  have hop2 : opEv P md call cfg fr h o.op = opV P cfg fr h o.op := by
    unfold vcallB at hv
    unfold opEv
    split
    · rename_i hop; rw [hop] at hv; cases hv
    · rfl
  rw [hop2] at ha
  split at ha
  · rename_i v1 h3 he
    simp only [Option.some.injEq, Prod.mk.injEq] at ha
    obtain ⟨rfl, rfl⟩ := ha
    have : v1 = v2 ∧ h3 = h2 := by
      unfold stepO at hb
      split at hb
      · rename_i hop; simp [vcallB, hop] at hv
      all_goals
        first
        | (rename_i hop; rw [hop] at he)
        | skip
        repeat' split at hb
        all_goals first
          | (cases hb; done)
          | (simp only [Option.some.injEq, Prod.mk.injEq] at hb
             obtain ⟨rfl, rfl, rfl, rfl⟩ := hb
             simp_all)
    exact ⟨by rw [this.1], this.2⟩
  · cases ha
theorem run_same_tail {ops : Array Oper} : ∀ (l : List Oper) {fr : List V} {h : Heap} {x ld : List Nat} {r : List V × Heap} {q : List V × Heap × List Nat × List Nat}, (∀ o ∈ l, o.guard = none ∧ oOp o = true ∧ vcallB o = false) → runOps P md call cfg ops l fr h = some r → runO P md call cfg n0 l fr h x ld = some q → r = (q.1, q.2.1)
  | [], fr, h, x, ld, r, q, _, h1, h2 => by cases h1; cases h2; rfl
  | o :: l, fr, h, x, ld, r, q, hl, h1, h2 => by
    unfold runOps at h1
    unfold runO at h2
    obtain ⟨g1, -, g3⟩ := hl o List.mem_cons_self
    split at h1
    · rename_i e1
      split at h2
      · rename_i e2
        obtain ⟨rfl, rfl⟩ := tail_same g1 g3 e1 e2
        exact run_same_tail l (fun p hp => hl p (List.mem_cons_of_mem _ hp)) h1 h2
      · cases h2
    · cases h1
theorem run_same {n1 : Nat} {ops : Array Oper} : ∀ (l tl : List Oper) {fr fr1 : List V} {h h1 : Heap} {x ld x' ld' x1 ld1 : List Nat} {r : List V × Heap} {q : List V × Heap × List Nat × List Nat}, (∀ o ∈ l, o.guard = none ∧ oOp o = true) → (∀ o ∈ tl, o.guard = none ∧ oOp o = true ∧ vcallB o = false) → headRun P md call cfg n1 ops l fr h x' ld' = some (fr1, h1, x1, ld1) → runOps P md call cfg ops tl fr1 h1 = some r → runO P md call cfg n0 (l ++ tl) fr h x ld = some q → r = (q.1, q.2.1)
  | [], tl, fr, fr1, h, h1, x, ld, x', ld', x1, ld1, r, q, _, ht, e1, e2, e3 => by
    simp only [headRun, Option.some.injEq, Prod.mk.injEq] at e1
    obtain ⟨rfl, rfl, rfl, rfl⟩ := e1
    exact run_same_tail tl ht e2 e3
  | o :: l, tl, fr, fr1, h, h1, x, ld, x', ld', x1, ld1, r, q, hl, ht, e1, e2, e3 => by
    unfold headRun at e1
    rw [List.cons_append] at e3
    unfold runO at e3
    obtain ⟨g1, g2⟩ := hl o List.mem_cons_self
    split at e1
    · rename_i k1
      split at e3
      · rename_i k2
        obtain ⟨rfl, rfl⟩ := head_same g1 g2 k1 k2
        exact run_same l tl (fun p hp => hl p (List.mem_cons_of_mem _ hp)) ht e1 e2 e3
      · cases e3
    · cases e1
theorem drawO_same {ops : Array Oper} {fr : List V} {h : Heap} {r q : List V × Heap} (hs : oOK P ops = true) (h1 : drawR1 P md call cfg ops fr h = some r) (h2 : drawO P md call cfg ops fr h = some q) : r = q := by
  unfold oOK at hs
  simp only [Bool.and_eq_true, List.all_eq_true, Option.isNone_iff_eq_none, Bool.not_eq_true'] at hs
  obtain ⟨⟨⟨⟨⟨hk, hg⟩, -⟩, -⟩, -⟩, hv⟩ := hs
  unfold drawR1 at h1
  unfold drawO at h2
  simp only at h1
  split at h1
  · split at h1
    · rename_i e1
      split at h1
      · split at h2
        · rename_i e2
          split at h2
          · cases h2
            rw [← List.take_append_drop (headLen (floatMask P 0 ops.toList) (befs [] ops.toList) ops.size) ops.toList] at e2
            exact run_same _ _ (fun o ho => ⟨hg o (List.mem_of_mem_take ho), hk o (List.mem_of_mem_take ho)⟩) (fun o ho => ⟨hg o (List.mem_of_mem_drop ho), hk o (List.mem_of_mem_drop ho), hv o ho⟩) e1 h1 e2
          · cases h2
        · cases h2
      · cases h1
    · cases h1
  · cases h1
theorem drawO_ok (hm : P.follows .mixedOrders = true) (hN : Named P) (hcall : CallOK P call) {ops : Array Oper} {fr : List V} {h : Heap} {fr' : List V} {h' : Heap} (hs : oOK P ops = true) (hd : drawO P md call cfg ops fr h = some (fr', h')) :
    HS cfg h h' ∧ ∀ m w a id, Rel m h w → FR m h w fr a → ∀ (Q : Exit → Act → World → Prop), (∀ a' w', After m h w fr' h' a' w' → Q .normal a' w') → (Code.region id ops true).wp P Q a w := by
  unfold oOK at hs
  simp only [Bool.and_eq_true] at hs
  obtain ⟨⟨⟨⟨⟨hk, hg⟩, hdst⟩, hok⟩, hwr⟩, -⟩ := hs
  have st := static_of_ok hok
  unfold drawO at hd
  split at hd
  case h_2 => cases hd
  rename_i fr1 h1 x ld hrun
  split at hd
  case isFalse => cases hd
  rename_i hld
  simp only [Option.some.injEq, Prod.mk.injEq] at hd
  obtain ⟨rfl, rfl⟩ := hd
  obtain ⟨-, -, htr⟩ := runO_tr hN hcall _ hk hrun
  obtain ⟨F, H, v, rfl, rfl, rfl, rfl, tr⟩ := htr x ld (fun _ hb => hb) fun _ hb => hb
  have hlen : ops.toList.length = ops.size := by simp
  rw [hlen] at hrun ⊢
  have at' : ∀ {i : Nat} {o : Oper}, ops[i]? = some o → ops.toList[i]? = some o := fun {i o} ho => by simpa using ho
  have hnc : ∀ j o, ops[j]? = some o → isW o = false → H (j + 1) = H j := fun j o ho hc => by
    rcases tr.kd j o (at' ho) with ⟨_, e, _⟩ | ⟨e, _⟩
    · exact e
    · rw [hc] at e; cases e
  have hHS : ∀ n, n ≤ ops.size → HS cfg (H 0) (H n) := by
    intro n
    induction n with
    | zero => exact fun _ => .refl _ _
    | succ n ih =>
      intro hn
      refine (ih (by omega)).trans ?_
      rcases tr.kd n _ (at' (Array.getElem?_eq_getElem (by omega))) with ⟨_, e, _⟩ | ⟨_, c, _, e, _⟩
      · rw [e]; exact .refl _ _
      · exact e
  have hfix : ∀ b ∈ ld, b < (H 0).length → ∀ k n, k + n ≤ ops.size → (∀ p o, k ≤ p → p < k + n → ops[p]? = some o → isSt o = true → ¬ b ∈ x) → (H (k + n))[b]? = (H k)[b]? := by
    intro b hb hb0 k n
    induction n with
    | zero => exact fun _ _ => rfl
    | succ n ih =>
      intro hn hst
      rw [← ih (by omega) fun p o h1 h2 => hst p o h1 (by omega), ← Nat.add_assoc]
      have ho : ops[k + n]? = some ops[k + n] := Array.getElem?_eq_getElem (by omega)
      rcases tr.kd (k + n) _ (at' ho) with ⟨_, e, _⟩ | ⟨_, c, _, _, e⟩
      · rw [e]
      · exact e (hHS (k + n) (by omega)).len b hb hb0 fun hs => hst _ _ (by omega) (by omega) ho hs
  let E : Nat → Eff := fun j => match ops[j]? with
    | some o => (o.dst, v j, none)
    | none => (none, .no, none)
  have hE : ∀ {j o}, ops[j]? = some o → E j = (o.dst, v j, none) := fun {j o} ho => by simp only [E, ho]
  have hF : ∀ n, n ≤ ops.size → (stS E (F 0, []) (fun _ => true) n).1 = F n := by
    intro n
    induction n with
    | zero => exact fun _ => rfl
    | succ n ih =>
      intro hn
      have ho : ops[n]? = some ops[n] := Array.getElem?_eq_getElem (by omega)
      rw [stS, if_pos rfl, hE ho, tr.fr n _ (at' ho), ← ih (by omega)]
      rfl
  have hcom : ∀ i j, i < j → j < ops.size → ComE (E i) (E j) := fun i j hij hj => by
    have hoi : ops[i]? = some ops[i] := Array.getElem?_eq_getElem (by omega)
    have hoj : ops[j]? = some ops[j] := Array.getElem?_eq_getElem hj
    rw [hE hoi, hE hoj]
    have hno : ∀ (q : Oper) (u : V) (b k : Nat) (z : V), ((q.dst, u, none) : Eff).2.2 ≠ some (b, k, z) := fun _ _ _ _ _ h => by cases h
    exact ⟨dsts_of hdst i j _ _ hij (at' hoi) (at' hoj), fun b k u h => absurd h (hno _ _ _ _ _), fun b k u h => absurd h (hno _ _ _ _ _), fun b k u b' k' u' h _ => absurd h (hno _ _ _ _ _)⟩
  refine ⟨hHS _ (Nat.le_refl _), fun m w a id r fR Q hQ => ?_⟩
  refine region_of_inv hm st.back (fun S a' w' => After m (H 0) w (stS E (F 0, []) S ops.size).1 (hpO ops H S ops.size) a' w') (fun S a' w' hJ hcl i o ho hSi hr => ?_) (fun S a' w' hJ hall => ?_) ?_
  · have hi := (Array.getElem?_eq_some_iff.1 ho).1
    have hgo : o.guard = none := by simpa using List.all_eq_true.1 hg o (List.mem_of_getElem? (at' ho))
    have hci : F i = (stS E (F 0, []) (fun j => decide (j < i)) ops.size).1 := by rw [stS_below _ (by omega), hF i (by omega)]
    have hslot : ∀ s ∈ o.looksAt ops, (stS E (F 0, []) S ops.size).1[s]? = (F i)[s]? := fun s hs => by
      rw [hci]
      refine stS_slot _ fun j hj hdj => ?_
      have hoj : ops[j]? = some ops[j] := Array.getElem?_eq_getElem hj
      rw [hE hoj] at hdj
      rcases Nat.lt_trichotomy j i with hlt | rfl | hgt
      · rw [decide_eq_true hlt]
        rcases st.head j i _ o hlt hi hoj ho with h | ⟨h, _⟩
        · exact ord_listed st.back hcl i o ho hr h
        · exact absurd hs ((Oper.apart_spec h).1 s hdj)
      · rw [hSi]; simp
      · rw [decide_eq_false (by omega)]
        cases hSj : S j with
        | false => rfl
        | true =>
          rcases st.head i j o _ hgt hj ho hoj with h | ⟨h, _⟩
          · have := ord_listed st.back hcl j _ hoj (hcl j _ hoj hSj) h
            rw [hSi] at this; cases this
          · exact absurd hs ((Oper.apart_spec h).2.2 s hdj)
    have hev : ∀ p ∈ o.op.operands.toList, ev (stS E (F 0, []) S ops.size).1 p = ev (F i) p := ev_congr hslot
    have hadd : (stS E (F 0, []) (addTo S i) ops.size).1 = put (stS E (F 0, []) S ops.size).1 o.dst (v i) := by
      rw [stS_add (E := E) (st0 := (F 0, [])) hSi ops.size hi fun j h1 h2 => hcom i j h1 h2, hE ho]
      rfl
    have hstep : ∃ c : Cfg, opEv P md call c (stS E (F 0, []) S ops.size).1 (hpO ops H S ops.size) o.op = some (v i, hpO ops H (addTo S i) ops.size) := by
      rcases tr.kd i o (at' ho) with ⟨hic, _, hrd⟩ | ⟨hic, c, hop, _, _⟩
      · refine ⟨cfg, ?_⟩
        rw [hrd _ (hpO ops H S ops.size) hev fun hld2 b hb hb0 => ?_]
        · rw [hpO_skip (S := addTo S i) (T := S) fun j q hq hqc => addTo_ne fun e => by
            subst e; rw [ho] at hq; cases hq; rw [hic] at hqc; cases hqc]
        · obtain ⟨j, hj, e, hj1, hj2⟩ := hpO_some (ops := ops) (H := H) (S := S) ops.size
          have hns : ∀ p q, (i ≤ p ∧ p < j ∨ j ≤ p ∧ p < i) → ops[p]? = some q → isSt q = true → ¬ b ∈ x := by
            rcases Bool.or_eq_true _ _ ▸ hld with hx | hls
            · intro p q _ _ _ hbx
              have := List.all_eq_true.1 hx b hbx
              simp [hb] at this
            · intro p q hpij hq hqs
              exfalso
              have hqw : isW q = true := by
                unfold isSt at hqs
                split at hqs
                · rename_i hop; simp [isW, hop]
                · cases hqs
              rcases hpij with ⟨h1, h2⟩ | ⟨h1, h2⟩
              · have hpi : i ≠ p := fun e => by
                  subst e
                  rw [ho] at hq
                  cases hq
                  rw [hic] at hqw
                  cases hqw
                have hSp : S p = true := by
                  rcases hj1 with rfl | ⟨i', o', rfl, ho', hS', hw'⟩
                  · omega
                  · by_cases e : p = i'
                    · rw [e]; exact hS'
                    · exact ord_listed st.back hcl i' o' ho' (hcl i' o' ho' hS') (ord_of_ok hwr (by omega) (at' hq) (at' ho') hqw hw')
                have := ord_listed st.back hcl p q hq (hcl p q hq hSp) (ls_of_ok hls (by omega) (at' ho) (at' hq) (.inl ⟨hld2, hqs⟩))
                rw [hSi] at this
                cases this
              · have hSp : S p = true := ord_listed st.back hcl i o ho hr (ls_of_ok hls h2 (at' hq) (at' ho) (.inr ⟨hqs, hld2⟩))
                have := hj2 p q h1 (by omega) hq hqw
                rw [hSp] at this
                cases this
          rw [e]
          rcases Nat.le_total j i with hji | hij
          · have := hfix b hb hb0 j (i - j) (by omega) fun p q h1 h2 hq hqs => hns p q (.inr ⟨h1, by omega⟩) hq hqs
            rw [show j + (i - j) = i by omega] at this
            exact this.symm
          · have := hfix b hb hb0 i (j - i) (by omega) fun p q h1 h2 hq hqs => hns p q (.inl ⟨h1, by omega⟩) hq hqs
            rwa [show i + (j - i) = j by omega] at this
      · refine ⟨c, ?_⟩
        have hlo : ∀ j q, j < i → ops[j]? = some q → isW q = true → S j = true := fun j q hj hq hqc => by
          exact ord_listed st.back hcl i o ho hr (ord_of_ok hwr hj (at' hq) (at' ho) hqc hic)
        have hhi : ∀ j q, i < j → j < ops.size → ops[j]? = some q → isW q = true → S j = false := fun j q hj hjs hq hqc => by
          cases hSj : S j with
          | false => rfl
          | true =>
            have := ord_listed st.back hcl j q hq (hcl j q hq hSj) (ord_of_ok hwr hj (at' ho) (at' hq) hic hqc)
            rw [hSi] at this; cases this
        have e1 : hpO ops H S ops.size = H i := by
          have := hpO_at (S := S) (i := i) hnc hlo ops.size (fun j q h1 h2 hq hqc => by
            rcases Nat.eq_or_lt_of_le h1 with rfl | h3
            · exact hSi
            · exact hhi j q h3 h2 hq hqc) (by omega) (Nat.le_refl _)
          rwa [show min i ops.size = i by omega] at this
        have e2 : hpO ops H (addTo S i) ops.size = H (i + 1) := by
          have := hpO_at (S := addTo S i) (i := i + 1) hnc (fun j q h1 hq hqc => by
            by_cases e : j = i
            · subst e; exact addTo_self _ _
            · rw [addTo_ne e]; exact hlo j q (by omega) hq hqc) ops.size (fun j q h1 h2 hq hqc => by
            rw [addTo_ne (by omega)]; exact hhi j q (by omega) h2 hq hqc) (by omega) (Nat.le_refl _)
          rwa [show min (i + 1) ops.size = i + 1 by omega] at this
        rw [e1, e2, opEv_congr hev]
        exact hop
    obtain ⟨c, hstep⟩ := hstep
    obtain ⟨m', e', r', f'⟩ := hJ
    have hso : stepOp P md call c ops o (stS E (F 0, []) S ops.size).1 (hpO ops H S ops.size) = some ((stS E (F 0, []) (addTo S i) ops.size).1, hpO ops H (addTo S i) ops.size) := by
      unfold stepOp wantd
      rw [hgo]
      simp only [hstep, hadd]
    obtain ⟨_, hw2⟩ := stepOp_ok hN hcall hso
    unfold wpOp
    rw [ho]
    simp only
    exact hw2 m' w' a' r' f' _ Q fun a2 w2 k2 => k2.trans e'
  · have e1 : (stS E (F 0, []) S ops.size).1 = F ops.size := by rw [← hF _ (Nat.le_refl _)]; exact congrArg Prod.fst (stS_congr _ fun j hj => hall j hj)
    have e2 : hpO ops H S ops.size = H ops.size := by
      have := hpO_at (S := S) (i := ops.size) hnc (fun j q h1 _ _ => hall j h1) ops.size (fun j q h1 h2 => by omega) (Nat.le_refl _) (Nat.le_refl _)
      rwa [Nat.min_self] at this
    rw [e1, e2] at hJ
    exact hQ a' w' hJ
  · have e1 : ∀ n, stS E (F 0, []) (fun _ => false) n = (F 0, []) := by
      intro n
      induction n with
      | zero => rfl
      | succ n ih => rw [stS, if_neg (by simp), ih]
    have e2 : hpO ops H (fun _ => false) ops.size = H 0 := by
      have := hpO_at (H := H) (S := fun _ => false) (i := 0) hnc (fun j q h1 => by omega) ops.size (fun j q h1 h2 _ _ => rfl) (by omega) (Nat.le_refl _)
      rwa [Nat.zero_min] at this
    rw [e1, e2]
    generalize hw1 : ({ w with drawn := w.drawn + 1 } : World) = w1
    have hh : w1.heap = w.heap := by rw [← hw1]
    have ho : w1.os = w.os := by rw [← hw1]
    have ht : w1.tape = w.tape := by rw [← hw1]
    have hu : w1.output = w.output := by rw [← hw1]
    have e1 : Evo m (H 0) w m (H 0) w1 := evo_heap hh ho ht hu
    exact ⟨m, e1, rel_heap r hh ho ht hu, fR.evo r e1⟩
end
end Go.Ab
namespace Go.Ab
variable [Base]
section
variable {P : Program} {md : FuncId → Nat} {call : Callf} {cfg : Cfg} {ops : Array Oper} {N : Nat} {x : List Nat} {F : Nat → List V} {H : Nat → Heap} {v : Nat → V}
theorem tr_HS (hN : Named P) (hcall : CallOK P call) (tr : Tr P md call cfg ops N x F H v) (hle : N ≤ ops.size) : ∀ i, i ≤ N → HS cfg (H 0) (H i) := by
  intro i
  induction i with
  | zero => intro _; exact .refl _ _
  | succ i ih =>
    intro hi
    refine (ih (by omega)).trans ⟨tr.len1 hle (by omega), fun b hb hw => (tr.hs hN hcall hle (by omega)).1 b hb fun hx => ?_, fun D t _ h2 hinv => (tr.hs hN hcall hle (by omega)).2.2 D t h2 hinv⟩
    rw [tr.xwr b hx] at hw; cases hw
theorem frS_none (fr : List V) (n : Nat) : frS ops v (fun _ => false) fr n = fr := by
  induction n with
  | zero => rfl
  | succ n ih => simp only [frS, Bool.false_eq_true, if_false, ih]; split <;> rfl
theorem frS_all {S : Nat → Bool} (fr : List V) (n : Nat) (hS : ∀ j, j < n → S j = true) : frS ops v S fr n = frS ops v (fun _ => true) fr n := by
  induction n with
  | zero => rfl
  | succ n ih => simp only [frS, ih fun j hj => hS j (by omega), hS n (by omega)]
theorem G_all (hN : Named P) (hcall : CallOK P call) (tr : Tr P md call cfg ops N x F H v) (hle : N ≤ ops.size) {k : Nat} (hk : k ≤ N) (hno : ∀ j (hj : j < ops.size), k ≤ j → j < N → isCall ops[j] = false) : G H N x k = H N :=
  Hx_self tr hle (Nat.le_refl N) hk fun b _ hb => by
    have h1 := (bi_spec H b N).2.1
    have h2 : b < (H (max k (bi H b N))).length := Nat.lt_of_lt_of_le (bi_lt (Nat.le_refl _) hb) (tr.len hle (by omega) (by omega))
    exact tr.xsame hN hcall hle (by omega) (Nat.le_refl _) h2 fun j hj h3 h4 => hno j hj (by omega) h4
theorem jh_start (hN : Named P) (hcall : CallOK P call) (tr : Tr P md call cfg ops N x F H v) (hle : N ≤ ops.size) {m : Mu} {w : World} {a : Act} (r : Rel m (H 0) w) (fR : FR m (H 0) w (F 0) a) :
    ∃ m', JH ops N x F H v m w (fun _ => false) a { w with drawn := w.drawn + 1 } m' 0 := by
  generalize hw1 : ({ w with drawn := w.drawn + 1 } : World) = w1
  have hh : w1.heap = w.heap := by rw [← hw1]
  have ho : w1.os = w.os := by rw [← hw1]
  have ht : w1.tape = w.tape := by rw [← hw1]
  have hu : w1.output = w.output := by rw [← hw1]
  have r1 : Rel m (H 0) w1 := rel_heap r hh ho ht hu
  have e1 : Evo m (H 0) w m (H 0) w1 := evo_heap hh ho ht hu
  have hgt : (G H N x 0).take (H 0).length = H 0 := by
    rw [G_take hN hcall tr hle (Nat.zero_le _), Hx_self tr hle (Nat.zero_le _) (Nat.zero_le _) fun b _ hb => by rw [show max 0 (bi H b N) = 0 by have := bi_le (N := N) hb; omega]]
  have hgl : (G H N x 0).length = (H N).length := G_length 0
  have h0N := tr.len hle (Nat.zero_le N) (Nat.le_refl N)
  have hget : ∀ b, b < (H 0).length → (G H N x 0)[b]? = (H 0)[b]? := by
    intro b hb
    have : ((G H N x 0).take (H 0).length)[b]? = (H 0)[b]? := by rw [hgt]
    rwa [List.getElem?_take, if_pos hb] at this
  have hlv : ∀ b, b < (H 0).length → (live (G H N x 0) b ↔ live (H 0) b) := fun b hb => by simp only [live, hget b hb]
  generalize hm1 : (⟨fun b => if b < (H 0).length then m b else none, m.z⟩ : Mu) = m1
  have hmz : m1.z = m.z := by rw [← hm1]
  have hmb : ∀ b c, m1 b = some c → b < (H 0).length ∧ m b = some c := by
    intro b c hbc
    rw [← hm1] at hbc
    simp only at hbc
    split at hbc
    · rename_i hlt; exact ⟨hlt, hbc⟩
    · cases hbc
  have hml : ∀ b, b < (H 0).length → m1 b = m b := fun b hb => by rw [← hm1]; simp [hb]
  have hR : ∀ {y : V} {z : Value}, R m (H 0) w1 y z → R m1 (G H N x 0) w1 y z := by
    intro y z hyz
    have hz : m.z = (Mu.cut ⟨fun _ => none, m.z⟩ (G H N x 0) (H 0).length).z := by
      funext b
      simp [Mu.cut]
    have := R.glue (m := ⟨fun _ => none, m.z⟩) (g := G H N x 0) (m' := m) (g' := G H N x 0) (w' := w1) (n := (H 0).length) (n' := (H 0).length) hz (Nat.le_refl _) (fun _ _ => rfl) (by omega) (x := y) (v := z) (by rw [hgt]; exact hyz)
    have hge : Mu.glue ⟨fun _ => none, m.z⟩ m (H 0).length = m1 := by rw [← hm1]; rfl
    rwa [hge] at this
  refine ⟨m1, Nat.zero_le _, fun i _ _ _ => by simp, fun _ _ => rfl, fun b _ c _ _ _ _ => by rw [show max 0 (c + 1) = c + 1 by omega], ?_, ?_, ?_, fun b c hl hm => .inl (hmb b c hm).1, fun b c cs hc hm j hj hbj e he => ?_, fun i h => by cases h⟩
  · refine ⟨hmz, by omega, fun b hb hl => ⟨(hlv b hb).1 hl, hml b hb⟩, fun b c hl hc => ?_, e1.frame, e1.size, e1.rs, ho, ht, hu⟩
    obtain ⟨h1, h2⟩ := hmb b c hc
    exact .inl ⟨b, (hlv b h1).1 hl, h2⟩
  · refine ⟨fun b c hl hc => ?_, fun b hb => r1.zl b (by rw [← hmz]; exact hb), fun b b' c hl hl' hc hc' => ?_, fun b cs c hcs hc => ?_⟩
    · obtain ⟨h1, h2⟩ := hmb b c hc
      rw [hmz]
      exact r1.zo b c ((hlv b h1).1 hl) h2
    · obtain ⟨h1, h2⟩ := hmb b c hc
      obtain ⟨h3, h4⟩ := hmb b' c hc'
      exact r1.inj b b' c ((hlv b h1).1 hl) ((hlv b' h3).1 hl') h2 h4
    · obtain ⟨h1, h2⟩ := hmb b c hc
      rw [hget b h1] at hcs
      exact (r1.blk b cs c hcs h2).carry rfl fun d z _ hrz => hR hrz
  · rw [frS_none]
    exact ⟨fR.len, fun s y z hy hz => hR ((fR.slot s y z hy hz).evo e1 r.lt), fR.defers.frame r e1.size e1.frame⟩
  · obtain ⟨h1, h2⟩ := hmb b c hm
    rw [hget b h1] at hc
    exact ((r1.blk b cs c hc h2).bel he).mono (tr.len hle (Nat.zero_le j) hj)
theorem jh_float {m0 : Mu} {w0 : World} (st : Static P ops N) (hN : Named P) (hcall : CallOK P call) (tr : Tr P md call cfg ops N x F H v) (hF0 : ∀ (s : Nat) (c : V), (F 0)[s]? = some c → Bel (H 0).length c) {S : Nat → Bool} {a : Act} {w : World} {m : Mu} {k : Nat}
    (J : JH ops N x F H v m0 w0 S a w m k) (hcl : Closed ops S) {i : Nat} {o : Oper} (hi : i < N) (ho : ops[i]? = some o) (hS : S i = false) (hr : Ready S o) (hfl : floats P o = true) :
    ∃ u, Blind P ops o a u ∧ ∃ m' k', JH ops N x F H v m0 w0 (addTo S i) (a.put o.dst u) w m' k' := by
  have hle := st.le
  have hslot : ∀ s ∈ o.looksAt ops, (frS ops v S (F 0) N)[s]? = (F i)[s]? := fun s hs => slot_eq st tr hcl hi ho hS hr hs
  have hgl : ∀ q, (G H N x q).length = (H N).length := G_length
  have hiN := tr.len hle (by omega : i ≤ N) (Nat.le_refl N)
  obtain ⟨hFs, hkind⟩ := tr.step i o hi ho
  have hwd : ∀ b, wantd ops (F i) o = some b → Region.wanted o (yielded ops a.tmps) = b := fun b hb => wantd_ok J.fR (by rw [wantd_congr hslot]; exact hb)
  have hbelslot : ∀ s ∈ o.looksAt ops, ∀ c, (F i)[s]? = some c → Bel (H i).length c := by
    intro s hs
    refine slot_bel tr hle (hF0 s) i (by omega) fun j oj hj hoj hd => ?_
    have hSj : S j = true := by
      rcases st.head j i oj o hj hi hoj ho with h | ⟨h, _⟩
      · exact ord_listed st.back hcl i o ho hr h
      · exact absurd hs ((Oper.apart_spec h).1 s hd)
    exact J.vb j hSj (by omega)
  have hrelcut : Rel (m.cut (G H N x k) (H i).length) ((G H N x k).take (H i).length) w := J.rel.cut (by rw [hgl]; exact hiN) fun b cs c hb hc hm e he => J.bel b c cs hc hm i (by omega) hb e he
  have hfrcut : FR (m.cut (G H N x k) (H i).length) ((G H N x k).take (H i).length) w (onlyAt (o.looksAt ops) (frS ops v S (F 0) N)) a := by
    refine ⟨by rw [onlyAt_length]; exact J.fR.len, fun s y z hy hz => ?_, J.fR.defers⟩
    by_cases hs : s ∈ o.looksAt ops
    · rw [onlyAt_in hs] at hy
      exact (J.fR.slot s y z hy hz).cut (by rw [hgl]; exact hiN) (hbelslot s hs y (by rw [← hslot s hs]; exact hy))
    · rw [onlyAt_out hs hy]; exact .any _
  have hcong : ∀ s ∈ o.looksAt ops, (F i)[s]? = (onlyAt (o.looksAt ops) (frS ops v S (F 0) N))[s]? := fun s hs => by rw [onlyAt_in hs, hslot s hs]
  have hnc : isCall o = false := by
    unfold floats at hfl
    unfold isCall
    split at hfl <;> rename_i hop <;> first
      | (rw [hop]; done)
      | (split at hfl <;> first | (rw [hop]; done) | (cases hfl; done))
      | (cases hfl; done)
  have hbornk : ∀ b ∈ x, ∀ c, c < N → (H c).length ≤ b → b < (H (c + 1)).length → addTo S i c = false → (H (max k (c + 1)))[b]? = (H (c + 1))[b]? := by
    intro b hb c hc h1 h2 h3
    refine J.born b hb c hc h1 h2 ?_
    by_cases hci : c = i
    · rw [hci]; exact hS
    · rwa [addTo_ne hci] at h3
  -- what it leaves, and the step
  have fin : ∀ u, H (i + 1) = H i → R (m.cut (G H N x k) (H i).length) ((G H N x k).take (H i).length) w (v i) u → ∃ m' k', JH ops N x F H v m0 w0 (addTo S i) (a.put o.dst u) w m' k' := by
    intro u hH hru
    refine ⟨_, k, jh_new st hN hcall tr J hcl hi ho hS J.kle (.inl rfl) hbornk (call_other J.kcall ho hnc) (m' := m.cut (G H N x k) (H i).length) (w' := w) (u := u) (by rw [hH]; exact .refl _ _ _) (by rw [hH]; exact hrelcut) (by rw [hH]; exact hru) ?_⟩
    intro b c cs hb _ hc hm j hj hbj e he
    exact J.bel b c cs hc (by simpa [Mu.cut, hb] using hm) j hj hbj e he
  rcases hkind with ⟨hw, hv, hH⟩ | ⟨hw, hic, hh, hop, hrd⟩ | ⟨hw, hic, _⟩
  · exact ⟨undef, .inr ⟨hwd false hw, rfl⟩, fin undef hH (by rw [hv]; exact .no)⟩
  · obtain ⟨hH, _⟩ := float_heap hfl hop
    have hop2 : opV P cfg (onlyAt (o.looksAt ops) (frS ops v S (F 0) N)) (H i) o.op = some (v i, H (i + 1)) := by
      have h1 : opEv P md call cfg (F i) (H i) o.op = some (v i, H (i + 1)) := by rw [opEv_nocall hnc]; exact hop
      rw [opEv_congr (ev_congr hcong), opEv_nocall hnc] at h1
      exact h1
    obtain ⟨u, hu, hru⟩ := float_ok hfl hop2 hfrcut
    exact ⟨u, .inl ⟨hwd true hw, hu⟩, fin u hH hru⟩
  · rw [hnc] at hic; cases hic
theorem step_float {m0 : Mu} {h0 : Heap} {w0 : World} {o : Oper} (hfl : floats P o = true) {fr fr2 : List V} {h h2 : Heap} (hst : stepOp P md call cfg ops o fr h = some (fr2, h2)) {a : Act} {w : World} (k : After m0 h0 w0 fr h a w) :
    ∃ u, Blind P ops o a u ∧ After m0 h0 w0 fr2 h2 (a.put o.dst u) w := by
  obtain ⟨m, e, r, f⟩ := k
  have hnc : isCall o = false := by
    unfold floats at hfl
    unfold isCall
    split at hfl <;> rename_i hop <;> first
      | (rw [hop]; done)
      | (split at hfl <;> first | (rw [hop]; done) | (cases hfl; done))
      | (cases hfl; done)
  unfold stepOp at hst
  split at hst
  · rename_i hw
    rw [opEv_nocall hnc] at hst
    split at hst
    · rename_i y h1 hop
      simp only [Option.some.injEq, Prod.mk.injEq] at hst
      obtain ⟨rfl, rfl⟩ := hst
      obtain ⟨rfl, _⟩ := float_heap hfl hop
      obtain ⟨u, hu, hru⟩ := float_ok hfl hop f
      exact ⟨u, .inl ⟨wantd_ok f hw, hu⟩, m, e, r, f.put hru o.dst⟩
    · cases hst
  · rename_i hw
    simp only [Option.some.injEq, Prod.mk.injEq] at hst
    obtain ⟨rfl, rfl⟩ := hst
    exact ⟨undef, .inr ⟨wantd_ok f hw, rfl⟩, m, e, r, f.put .no o.dst⟩
  · cases hst
theorem drawR1_any (hN : Named P) (hcall : CallOK P call) {cfg : Cfg} {ops : Array Oper} {fr : List V} {h : Heap} {fr' : List V} {h' : Heap} (hd : drawR1 P md call cfg ops fr h = some (fr', h')) : Back ops ∧ (∀ (j : Nat) (o : Oper) cs b, ops[j]? = some o → o.op ≠ .select cs b) ∧ HS cfg h h' ∧
    ∀ m w a, Rel m h w → FR m h w fr a → ∀ (Q : Exit → Act → World → Prop), (∀ a' w', After m h w fr' h' a' w' → Q .normal a' w') → wpAny P .any ops (only Q) ops.size (Array.replicate ops.size false) a { w with drawn := w.drawn + 1 } := by
  unfold drawR1 at hd
  simp only at hd
  split at hd
  · rename_i hok
    split at hd
    · rename_i fr1 h1 x ld hrun
      split at hd
      · rename_i hld
        have st := static_of_ok hok
        generalize headLen (floatMask P 0 ops.toList) (befs [] ops.toList) ops.size = N at st hrun hd
        obtain ⟨F, H, v, hF0, hH0, hFN, hHN, tr⟩ := tr_of_run hN hcall st.le hrun hld
        subst hF0 hH0 hFN hHN
        obtain ⟨hs2, _⟩ := runOps_ok hN hcall _ hd
        refine ⟨st.back, st.nosel, (tr_HS hN hcall tr st.le N (Nat.le_refl _)).trans hs2, fun m w a r fR Q hQ => ?_⟩
        have hF0b : ∀ (s : Nat) (c : V), (F 0)[s]? = some c → Bel (H 0).length c := by
          intro s c hc
          have hlt : s < a.tmps.size := by rw [← fR.len]; exact (List.getElem?_eq_some_iff.1 hc).1
          exact (fR.slot s c _ hc (Array.getElem?_eq_getElem hlt)).bel
        -- all of the first ones have been carried out
        have done : ∀ (S : Nat → Bool) (a' : Act) (w' : World) (m' : Mu) (k : Nat), JH ops N x F H v m w S a' w' m' k → (∀ j, j < N → S j = true) → After m (H 0) w (F N) (H N) a' w' := by
          intro S a' w' m' k J hall
          have hG : G H N x k = H N := G_all hN hcall tr st.le J.kle fun j hj hkj hjN => by
            cases hc : isCall ops[j] with
            | false => rfl
            | true => have := (J.kcall j hj hjN hc).1 (hall j hjN); omega
          have hf : frS ops v S (F 0) N = F N := by rw [frS_all (F 0) N hall, ← F_frS tr st.le (Nat.le_refl N)]
          exact ⟨m', by rw [← hG]; exact J.evo, by rw [← hG]; exact J.rel, by rw [← hG, ← hf]; exact J.fR⟩
        let J : (Nat → Bool) → Act → World → Prop := fun S a' w' => (∃ m' k, JH ops N x F H v m w S a' w' m' k) ∨
          ∃ t frt ht, N < t ∧ t ≤ ops.size ∧ (∀ i, i < ops.size → (S i = true ↔ i < t)) ∧ After m (H 0) w frt ht a' w' ∧ runOps P md call cfg ops (ops.toList.drop t) frt ht = some (fr', h')
        obtain ⟨m1, hstart⟩ := jh_start hN hcall tr st.le r fR
        -- one of the last ones
        have unroll : ∀ (t : Nat) (o : Oper) (frt : List V) (ht : Heap), ops[t]? = some o → runOps P md call cfg ops (ops.toList.drop t) frt ht = some (fr', h') →
            ∃ fr2 h2, stepOp P md call cfg ops o frt ht = some (fr2, h2) ∧ runOps P md call cfg ops (ops.toList.drop (t + 1)) fr2 h2 = some (fr', h') := by
          intro t o frt ht hto hrt
          have htl : t < ops.toList.length := by simpa using (Array.getElem?_eq_some_iff.1 hto).1
          have hte : ops.toList[t] = o := by simpa using (Array.getElem?_eq_some_iff.1 hto).2
          rw [List.drop_eq_getElem_cons htl, hte] at hrt
          simp only [runOps] at hrt
          split at hrt
          · rename_i fr2 h2 hst
            exact ⟨fr2, h2, hst, hrt⟩
          · cases hrt
        have grow : ∀ (S : Nat → Bool) (t : Nat), (∀ i, i < ops.size → (S i = true ↔ i < t)) → ∀ i, i < ops.size → (addTo S t i = true ↔ i < t + 1) := by
          intro S t hSt i hi
          by_cases hit : i = t
          · subst hit; simp [addTo_self]
          · rw [addTo_ne hit, hSt i hi]; omega
        -- where one of the last ones stands when it comes up
        have place : ∀ (S : Nat → Bool) (a' : Act) (w' : World), J S a' w' → ∀ (i : Nat) (o : Oper), N ≤ i → ops[i]? = some o → S i = false → (∀ p, p < i → S p = true) →
            (∀ j, j < ops.size → (S j = true ↔ j < i)) ∧ ∃ frt ht, After m (H 0) w frt ht a' w' ∧ runOps P md call cfg ops (ops.toList.drop i) frt ht = some (fr', h') := by
          intro S a' w' hJ i o hiN ho hS hall
          have hio : i < ops.size := (Array.getElem?_eq_some_iff.1 ho).1
          rcases hJ with ⟨m', k, JJ⟩ | ⟨t, frt, ht, hNt, htn, hSt, haft, hrt⟩
          · have hiN' : i = N := by
              rcases Nat.lt_or_ge N i with h | h
              · have h1 := hall N h
                rw [JJ.tail N (Nat.le_refl _)] at h1; cases h1
              · omega
            subst hiN'
            refine ⟨fun j hj => ⟨fun h => ?_, fun h => hall j h⟩, _, _, done S a' w' m' k JJ hall, hd⟩
            rcases Nat.lt_or_ge j i with h2 | h2
            · exact h2
            · rw [JJ.tail j h2] at h; cases h
          · have hit : i = t := by
              have h1 : ¬ i < t := fun h => by have := (hSt i hio).2 h; rw [hS] at this; cases this
              rcases Nat.lt_or_ge t i with h | h
              · have := (hSt t (by omega)).1 (hall t h); omega
              · omega
            subst hit
            exact ⟨hSt, frt, ht, haft, hrt⟩
        have early : ∀ (S : Nat → Bool) (a' : Act) (w' : World), J S a' w' → ∀ i, i < N → S i = false → ∃ m' k, JH ops N x F H v m w S a' w' m' k := by
          intro S a' w' hJ i hiN hS
          rcases hJ with h | ⟨t, frt, ht, hNt, htn, hSt, haft, hrt⟩
          · exact h
          · have := (hSt i (by omega)).2 (by omega)
            rw [hS] at this; cases this
        refine any_of_float st J ?_ ?_ ?_ (.inl ⟨m1, 0, hstart⟩)
        · intro S a' w' hJ hcl i o ho hS hr hfl hmin
          have hio : i < ops.size := (Array.getElem?_eq_some_iff.1 ho).1
          rcases Nat.lt_or_ge i N with hiN | hiN
          · obtain ⟨m', k, JJ⟩ := early S a' w' hJ i hiN hS
            obtain ⟨u, hb, h⟩ := jh_float st hN hcall tr hF0b JJ hcl hiN ho hS hr hfl
            exact ⟨u, hb, .inl h⟩
          · obtain ⟨hSt, frt, ht, haft, hrt⟩ := place S a' w' hJ i o hiN ho hS (below_done st hcl hiN ho hr hmin)
            obtain ⟨fr2, h2, hst, hrt2⟩ := unroll i o frt ht ho hrt
            obtain ⟨u, hb, haft2⟩ := step_float hfl hst haft
            exact ⟨u, hb, .inr ⟨i + 1, fr2, h2, by omega, by omega, grow S i hSt, haft2, hrt2⟩⟩
        · intro S a' w' hJ hcl hsat i o ho hS hr
          have hio : i < ops.size := (Array.getElem?_eq_some_iff.1 ho).1
          rcases Nat.lt_or_ge i N with hiN | hiN
          · obtain ⟨m', k, JJ⟩ := early S a' w' hJ i hiN hS
            exact wpOp_mono (fun a2 w2 h => .inl h) (jh_step st hN hcall tr hF0b JJ hcl hiN ho hS hr (only Q))
          · obtain ⟨hSt, frt, ht, ⟨m', e', r', f'⟩, hrt⟩ := place S a' w' hJ i o hiN ho hS (below_done st hcl hiN ho hr fun p q _ => hsat p q)
            obtain ⟨fr2, h2, hst, hrt2⟩ := unroll i o frt ht ho hrt
            obtain ⟨_, hw2⟩ := stepOp_ok hN hcall hst
            unfold wpOp
            rw [ho]
            simp only
            exact hw2 m' w' a' r' f' _ (only Q) fun a2 w2 k2 => .inr ⟨i + 1, fr2, h2, by omega, by omega, grow S i hSt, k2.trans e', hrt2⟩
        · intro S a' w' hJ hall
          rcases hJ with ⟨m', k, JJ⟩ | ⟨t, frt, ht, hNt, htn, hSt, haft, hrt⟩
          · have hNn : N = ops.size := by
              rcases Nat.lt_or_ge N ops.size with h | h
              · have := hall N h
                rw [JJ.tail N (Nat.le_refl _)] at this; cases this
              · have := st.le; omega
            have hfin := done S a' w' m' k JJ fun j hj => hall j (by omega)
            rw [List.drop_of_length_le (by simp; omega)] at hd
            simp only [runOps, Option.some.injEq, Prod.mk.injEq] at hd
            obtain ⟨h1, h2⟩ := hd
            rw [← h1, ← h2] at hQ
            exact hQ a' w' hfin
          · have htn' : t = ops.size := by
              rcases Nat.lt_or_ge t ops.size with h | h
              · have := (hSt t h).1 (hall t h); omega
              · omega
            rw [List.drop_of_length_le (by simp; omega)] at hrt
            simp only [runOps, Option.some.injEq, Prod.mk.injEq] at hrt
            obtain ⟨h1, h2⟩ := hrt
            rw [← h1, ← h2] at hQ
            exact hQ a' w' haft
      · cases hd
    · cases hd
  · cases hd
theorem drawR_ok (hm : P.follows .mixedOrders = true) (hN : Named P) (hcall : CallOK P call) : DrawOK P (drawR P md call) := by
  intro cfg ops fr h fr' h' hd
  unfold drawR at hd
  split at hd
  · rename_i hpop
    unfold popOK at hpop
    split at hd
    · rename_i o ho
      rw [ho] at hpop
      simp only [Bool.and_eq_true, List.all_eq_true, Option.isNone_iff_eq_none] at hpop
      obtain ⟨⟨⟨hfree, hgd⟩, -⟩, hap⟩ := hpop
      split at hd
      · rename_i x hop
        split at hd
        · rename_i v hv
          have hne : ops.toList ≠ [] := fun e => by rw [e] at ho; cases ho
          have hlast : ops.toList.getLast hne = o := by
            rw [List.getLast?_eq_some_getLast hne] at ho
            exact Option.some.inj ho
          obtain ⟨ops0, hops0⟩ : ∃ ops0, ops.toList.dropLast.toArray = ops0 := ⟨_, rfl⟩
          rw [hops0] at hd
          have hops : ops = ops0.push o := by
            apply Array.ext'
            rw [← hops0, Array.toList_push, ← hlast]
            exact (List.dropLast_concat_getLast hne).symm
          obtain ⟨hback, hsel, hs, hw⟩ := drawR1_any hN hcall hd
          have hg0 : ∀ (i : Nat) (q : Oper), ops0[i]? = some q → q.guard = none := fun i q hq => hgd q (by rw [hops, Array.toList_push]; exact List.mem_append_left _ (List.mem_of_getElem? (by simpa using hq)))
          have hoin : ops[ops0.size]? = some o := by rw [hops]; simp
          have hafter : o.after = #[] := by
            unfold freeB at hfree
            rw [hop] at hfree
            split at hfree
            · simpa using hfree
            · cases hfree
          refine ⟨hs, fun m w a id r fR Q hQ => region_of_any hm ?_⟩
          have hbl : ∃ u, Blind P ops o a u ∧ R m h w v u := by
            obtain ⟨u, hu, hru⟩ := float_ok (P := P) (o := o) (cfg := cfg) (h := h) (h' := h) (v := v) (by simp [floats, hop]) (by simp only [hop, opV, hv]; rfl) fR
            exact ⟨u, .inl ⟨by simp only [Region.wanted, hgd o (by rw [hops, Array.toList_push]; simp)], hu⟩, hru⟩
          obtain ⟨u, hb, hru⟩ := hbl
          have hsz : ops.size = ops0.size + 1 := by rw [hops]; simp
          have hrep : (Array.replicate ops.size false).setIfInBounds ops0.size true = (Array.replicate ops0.size false).push true := by
            apply Array.ext_getElem?
            intro z
            rw [hsz]
            simp only [Array.getElem?_setIfInBounds, Array.getElem?_push, Array.size_replicate, Array.getElem?_replicate]
            by_cases hz : ops0.size = z
            · subst hz; simp
            · simp [hz, show ¬ z = ops0.size from fun e => hz e.symm]
              by_cases hz2 : z < ops0.size
              · simp [hz2, show z < ops0.size + 1 by omega]
              · simp [hz2, show ¬ z < ops0.size + 1 by omega]
          have hset : setOf (Array.replicate ops.size false) = fun _ => false := by
            funext i; simp [setOf, Array.getD_eq_getD_getElem?, Array.getElem?_replicate]
            split <;> rfl
          rw [hsz]
          rw [hsz] at hrep hset
          refine wpAny_first (ops := ops) (fun j q cs b hq => ?_) hoin ops0.size _ a _ (by simp [hsz]) (by rw [hset]) (by rw [hset]; intro e he; rw [hafter] at he; cases he) (fun j oj hj hji _ S _ _ _ _ => ?_) (by rw [hset]; intro i o _ h; cases h) hb ?_
          · rw [hops, Array.getElem?_push] at hq
            split at hq
            · cases hq; rw [hop]; exact fun e => by cases e
            · exact hsel j q cs b hq
          · refine Ap.of (hap oj ?_)
            rw [hops, Array.getElem?_push, if_neg hji] at hj
            have : ops.toList.dropLast = ops0.toList := by rw [← hops0]
            rw [this]
            exact List.mem_of_getElem? (by simpa using hj)
          · rw [hrep, hops]
            exact wpAny_push hg0 hback _ _ _ _ (by simp) (hw m w _ r (fR.put hru o.dst) Q hQ)
        · cases hd
      · cases hd
    · cases hd
  · split at hd
    · exact drawS_ok (md := md) (call := call) hm hN hcall (by assumption) hd
    · split at hd
      · rename_i heq
        cases hd
        obtain ⟨_, _, hs, hw⟩ := drawR1_any hN hcall heq
        exact ⟨hs, fun m w a id r fR Q hQ => region_of_any hm (hw m w a r fR Q hQ)⟩
      · split at hd
        · exact drawO_ok hm hN hcall (by assumption) hd
        · cases hd
end
end Go.Ab
