/- Maps from integers to integers. -/
import Derived.Test.YtcedojbifnangaaAbOps10
import Derived.MapKept
namespace Go.Ab
open Go.Instr

def fnd : List (Int × Int) → Int → Nat → Option (Nat × Int)
  | [], _, _ => none
  | (a, v) :: r, x, i => if x == a then some (i, v) else fnd r x (i + 1)

theorem fnd_mget (x : Int) : ∀ (l : List (Int × Int)) (i : Nat), (fnd l x i).map (·.2) = mget l x
  | [], _ => rfl
  | (a, v) :: r, i => by
    simp only [fnd, mget]
    split
    · rfl
    · exact fnd_mget x r (i + 1)

theorem fnd_ge (x : Int) : ∀ (l : List (Int × Int)) (i j : Nat) (v : Int), fnd l x i = some (j, v) → i ≤ j
  | [], _, _, _, h => by simp [fnd] at h
  | (a, u) :: r, i, j, v, h => by
    simp only [fnd] at h
    split at h
    · cases h; exact Nat.le_refl _
    · have := fnd_ge x r (i + 1) j v h; omega

theorem findNow_ok {k e : IntKind} {x : Int} : ∀ (es : List MapEntry) (l : List (Int × Int)) (i : Nat), es.map (fun q => (q.key, q.val)) = l.map (fun q => (Value.int k q.1, Value.int e q.2)) →
    findNow (.int k) (.int k x) es i = some ((fnd l x i).map fun q => (q.1, Value.int e q.2))
  | [], [], i, _ => rfl
  | [], _ :: _, i, h => by simp at h
  | _ :: _, [], i, h => by simp at h
  | q :: es, (a, v) :: l, i, h => by
    simp only [List.map_cons, List.cons.injEq, Prod.mk.injEq] at h
    obtain ⟨⟨h1, h2⟩, h3⟩ := h
    simp only [findNow, h1, sameNow, if_true, fnd]
    by_cases hxa : x = a
    · subst hxa; simp [h2]
    · have e1 : (x == a) = false := by simpa using hxa
      simp only [e1, Bool.false_eq_true, if_false]
      exact findNow_ok es l (i + 1) h3

theorem mset_none {x y : Int} : ∀ (l : List (Int × Int)) (i : Nat), fnd l x i = none → mset l x y = l ++ [(x, y)]
  | [], _, _ => rfl
  | (a, v) :: l, i, h => by
    simp only [fnd] at h
    split at h
    · cases h
    · rename_i hxa
      simp only [mset, hxa, if_false, List.cons_append, Bool.false_eq_true]
      rw [mset_none l (i + 1) h]

theorem mset_some {k e : IntKind} {x y : Int} {b : Nat} : ∀ (es : List MapEntry) (l : List (Int × Int)) (i j : Nat) (v : Int), es.map (fun q => (q.key, q.val)) = l.map (fun q => (Value.int k q.1, Value.int e q.2)) → fnd l x i = some (i + j, v) →
    (es.modify j fun q => { q with key := Value.int k x, val := Value.int e y }).map (fun q => (q.key, q.val)) = (mset l x y).map (fun q => (Value.int k q.1, Value.int e q.2)) ∧ (es[j]?).map (·.key) = some (Value.int k x)
  | [], [], i, j, v, _, h => by simp [fnd] at h
  | [], _ :: _, i, j, v, h, _ => by simp at h
  | _ :: _, [], i, j, v, h, _ => by simp at h
  | q :: es, (a, u) :: l, i, j, v, h, hf => by
    simp only [List.map_cons, List.cons.injEq, Prod.mk.injEq] at h
    obtain ⟨⟨h1, h2⟩, h3⟩ := h
    simp only [fnd] at hf
    split at hf
    · rename_i hxa
      have hj : j = 0 := by simp at hf; omega
      subst hj
      have hxa' : x = a := by simpa using hxa
      subst hxa'
      simp [mset, h1, h3]
    · rename_i hxa
      have hge := fnd_ge x l (i + 1) (i + j) v hf
      obtain ⟨j', rfl⟩ : ∃ j', j = j' + 1 := ⟨j - 1, by omega⟩
      have ih := mset_some (b := b) (y := y) es l (i + 1) j' v h3 (by rw [hf]; congr 2; omega)
      simp only [mset, hxa, if_false, Bool.false_eq_true, List.modify_succ_cons, List.map_cons, h1, h2, List.getElem?_cons_succ]
      exact ⟨by rw [ih.1], ih.2⟩

section
variable {P : Program} {m : Mu} {h : Heap} {w : World}

theorem mapKinds_ok {t : TypeId} {k e : IntKind} (hk : mapKinds P t = some (k, e)) : ∃ a b, P.underlying t = some (.map a b) ∧ P.underlying a = some (.int k) ∧ P.underlying b = some (.int e) ∧ zeroOf P b = some (.int e 0) := by
  unfold mapKinds at hk
  split at hk
  · rename_i a b hu
    split at hk
    · rename_i k' e' e'' ha hb hz
      split at hk
      · rename_i he
        cases hk
        exact ⟨a, b, hu, ha, hb, by rw [hz, he]⟩
      · cases hk
    · cases hk
  · cases hk

theorem rel_alloc_map (r : Rel m h w) (k e : IntKind) : Rel (upd m h.length w.heap.size) (h ++ [some [.mp k e []]]) (w.alloc (.map #[] 0)) := by
  have ev := evo_alloc (m := m) (h := h) (w := w) [.mp k e []] (.map #[] 0)
  refine ⟨fun x b hl hb hz => ?_, fun b hb => Nat.lt_of_lt_of_le (r.zl b hb) ev.size, fun x y b hx hy hbx hby => ?_, fun x cs' b hx hb => ?_⟩
  · rcases live_append_new hl with h1 | rfl
    · simp only [upd, Nat.ne_of_lt h1, if_false] at hb
      exact r.zo x b ((live_append h1).1 hl) hb hz
    · simp only [upd, if_true, Option.some.injEq] at hb
      have := r.zl b hz
      omega
  · rcases live_append_new hx with h1 | rfl
    · rcases live_append_new hy with h2 | rfl
      · simp only [upd, Nat.ne_of_lt h1, Nat.ne_of_lt h2, if_false] at hbx hby
        exact r.inj x y b ((live_append h1).1 hx) ((live_append h2).1 hy) hbx hby
      · simp only [upd, Nat.ne_of_lt h1, if_false, if_true, Option.some.injEq] at hbx hby
        have := r.lt x b ((live_append h1).1 hx) hbx
        omega
    · rcases live_append_new hy with h2 | rfl
      · simp only [upd, Nat.ne_of_lt h2, if_false, if_true, Option.some.injEq] at hbx hby
        have := r.lt y b ((live_append h2).1 hy) hby
        omega
      · rfl
  · rcases live_append_new ⟨cs', hx⟩ with h1 | rfl
    · rw [List.getElem?_append_left h1] at hx
      simp only [upd, Nat.ne_of_lt h1, if_false] at hb
      exact (r.blk x cs' b hx hb).carry (pushed_old (r.lt x b ⟨cs', hx⟩ hb)) fun c v _ hrv => hrv.evo ev r.lt
    · simp only [upd, if_true, Option.some.injEq] at hb
      subst hb
      simp at hx
      subst hx
      exact .inr ⟨k, e, [], #[], 0, rfl, pushed_new, rfl⟩

theorem makeMap_ok (r : Rel m h w) {t : TypeId} {x : V} {h' : Heap} (hy : makeMapV P h t = some (x, h')) : ∃ v w', (makeMap t none).run P w = .ok v w' ∧ Out m h w x h' v w' := by
  unfold makeMapV at hy
  split at hy
  · rename_i k e hk
    cases hy
    exact ⟨_, _, rfl, _, evo_alloc _ _, rel_alloc_map r k e, .mref (by simp) fun _ => by simp [upd]⟩
  · cases hy

/-- A map that the evaluator can look into. -/
theorem R.mref_at (r : Rel m h w) {x : Nat} {v : Value} {k e : IntKind} {l : List (Int × Int)} (hv : R m h w (.mref x) v) (hb : mapOf h x = some (k, e, l)) :
    ∃ b es clock, m x = some b ∧ v = .map (some b) ∧ w.heap[b]? = some (.map es clock) ∧ MapR k e l es := by
  have hc := live_of_mapOf hb
  cases hv with
  | mref hlt hv =>
    have hmb := hv ⟨_, hc⟩
    rcases r.blk x _ _ hc hmb with ⟨arr, T, ha, hl, hr⟩ | ⟨k', e', l', es, clock, heq, ha, hm⟩
    · obtain ⟨u, _, hu⟩ := hr 0 (.mp k e l) rfl
      cases hu
    · cases heq
      exact ⟨_, es, clock, hmb, rfl, ha, hm⟩

theorem checkKey_succ (n : Nat) {em : Bool} {t : TypeId} {k : IntKind} {x : Int} (hu : P.underlying t = some (.int k)) : (checkKey em (n + 1) t (.int k x)).run P w = .ok () w := by
  simp only [checkKey, Sem.run_bind, run_underlying hu, Result.andThen_ok, Sem.run_pure]
theorem checkKey_int {em : Bool} {t : TypeId} {k : IntKind} {x : Int} (hu : P.underlying t = some (.int k)) : (checkKey em 10000 t (.int k x)).run P w = .ok () w := checkKey_succ 9999 hu

theorem getObj_map {r : Nat} {es : Array MapEntry} {clock : Nat} (hb : w.heap[r]? = some (.map es clock)) : (getObj r).run P w = .ok (.map es clock) w := by
  simp [getObj, Sem.run, hb]

theorem findKey_int {t : TypeId} {k e : IntKind} {x : Int} {es : Array MapEntry} {l : List (Int × Int)} (hu : P.underlying t = some (.int k)) (hm : MapR k e l es) :
    (findKey t (.int k x) es.toList).run P w = .ok ((fnd l x 0).map fun q => (q.1, Value.int e q.2)) w := by
  simp only [findKey, Sem.run_bind, run_underlying hu, Result.andThen_ok, findNow_ok es.toList l 0 hm, Sem.run_pure]

theorem ofVal_int {v : Value} {k : IntKind} {n : Int} (h : ofVal v = some (.int k n)) : v = .int k n := by
  unfold ofVal at h
  split at h
  · simp at h
  · split at h <;> simp at h
  · unfold ofLeaf at h
    split at h <;> simp at h
    obtain ⟨rfl, rfl⟩ := h
    rfl

theorem lookup_ok (r : Rel m h w) {t : TypeId} {x key : V} {xv kv : Value} {ok : Bool} {y : V} (hx : R m h w x xv) (hk : R m h w key kv) (hy : lookupV P h t x key ok = some y) : ∃ v, (lookup t xv kv ok).run P w = .ok v w ∧ R m h w y v := by
  unfold lookupV at hy
  split at hy
  · rename_i k e b k1 q hmk
    split at hy
    · rename_i k2 e2 l hmo
      split at hy
      · rename_i hc
        simp only [Bool.and_eq_true, decide_eq_true_eq] at hc
        obtain ⟨⟨rfl, rfl⟩, rfl⟩ := hc
        obtain ⟨b', es, clock, hmb, rfl, ha, hm⟩ := R.mref_at r hx hmo
        cases hk
        obtain ⟨ta, tb, hu, hua, hub, hz⟩ := mapKinds_ok hmk
        obtain ⟨zv, hzr, hzo, _⟩ := run_zeroValue' hz w
        obtain rfl := ofVal_int hzo
        have hg := fnd_mget q l 0
        have hrun : ∀ res, fnd l q 0 = res → (lookup t (.map (some b')) (.int k q) ok).run P w = .ok (match res with
            | some p => if ok then .tuple #[.int e p.2, .bool true] else .int e p.2
            | none => if ok then .tuple #[.int e 0, .bool false] else .int e 0) w := by
          intro res hres
          simp only [lookup, Sem.run_bind, run_underlying hu, Result.andThen_ok, getObj_map ha, Sem.run_pure, checkKey_int hua, findKey_int hua hm, hres]
          cases res with
          | none => simp [hzr]
          | some p => simp
        have tup : ∀ a b : Value, ∀ p q : V, R m h w p a → R m h w q b → R m h w (.tup [p, q]) (.tuple #[a, b]) := fun a b p q hp hq => .tup rfl fun i c v hc hv => by
          match i, hc, hv with
          | 0, hc, hv => simp at hc hv; subst hc hv; exact hp
          | 1, hc, hv => simp at hc hv; subst hc hv; exact hq
          | i + 2, hc, _ => simp at hc
        cases hf : fnd l q 0 with
        | none =>
          rw [hf] at hg
          simp only [Option.map_none] at hg
          rw [← hg] at hy
          simp only [Option.some.injEq] at hy
          refine ⟨_, hrun none hf, ?_⟩
          cases ok <;> simp only [if_true, Bool.false_eq_true, if_false] at hy ⊢ <;> subst hy
          · exact .int _ _
          · exact tup _ _ _ _ (.int _ _) (.bool _)
        | some p =>
          rw [hf] at hg
          simp only [Option.map_some] at hg
          rw [← hg] at hy
          simp only [Option.some.injEq] at hy
          refine ⟨_, hrun (some p) hf, ?_⟩
          cases ok <;> simp only [if_true, Bool.false_eq_true, if_false] at hy ⊢ <;> subst hy
          · exact .int _ _
          · exact tup _ _ _ _ (.int _ _) (.bool _)
      · cases hy
    · cases hy
  · cases hy

theorem map_set (r : Rel m h w) {x b : Nat} {k e : IntKind} {l l' : List (Int × Int)} {es es' : Array MapEntry} {clock clock' : Nat} (hx : h[x]? = some (some [.mp k e l])) (hb : m x = some b) (ha : w.heap[b]? = some (.map es clock)) (hm : MapR k e l' es') :
    Evo m h w m (h.set x (some [.mp k e l'])) { w with heap := w.heap.setIfInBounds b (.map es' clock') } ∧ Rel m (h.set x (some [.mp k e l'])) { w with heap := w.heap.setIfInBounds b (.map es' clock') } := by
  have hlx : live h x := ⟨_, hx⟩
  have hother : ∀ c, c ≠ b → (w.heap.setIfInBounds b (.map es' clock'))[c]? = w.heap[c]? := fun c hc => Array.getElem?_setIfInBounds_ne (fun e => hc e.symm)
  have hlt : b < w.heap.size := r.lt x b hlx hb
  have ev : Evo m h w m (h.set x (some [.mp k e l'])) { w with heap := w.heap.setIfInBounds b (.map es' clock') } := {
    zeq := rfl
    len := by simp
    keep := fun y _ hl => ⟨(live_set hlx).1 hl, rfl⟩
    own := fun y c hl hc => .inl ⟨y, (live_set hlx).1 hl, hc⟩
    frame := fun c _ hn => hother c fun hcb => hn x hlx (hcb ▸ hb)
    size := by simp
    rs := fun c _ => by
      by_cases hcb : c = b
      · subst hcb; simp [rsz, ha]
      · rw [rsz_of_block (w := w) (w' := { w with heap := w.heap.setIfInBounds b (.map es' clock') }) (hother c hcb)]; exact Nat.le_refl _
    os := rfl
    tape := rfl
    output := rfl }
  refine ⟨ev, fun y c hy hc => r.zo y c ((live_set hlx).1 hy) hc, fun c hc => Nat.lt_of_lt_of_le (r.zl c hc) ev.size, fun y z c hy hz hcy hcz => r.inj y z c ((live_set hlx).1 hy) ((live_set hlx).1 hz) hcy hcz, fun y cs' c hy hc => ?_⟩
  by_cases hxy : x = y
  · subst hxy
    rw [List.getElem?_set_self (live_lt hlx)] at hy
    cases hy
    rw [hb] at hc
    cases hc
    exact .inr ⟨k, e, l', es', clock', rfl, by simp [hlt], hm⟩
  · rw [List.getElem?_set_ne hxy] at hy
    have hcb : c ≠ b := fun e => hxy (r.inj x y b hlx ⟨cs', hy⟩ hb (e ▸ hc))
    exact (r.blk y cs' c hy hc).carry (hother c hcb) fun d v _ hrv => hrv.evo ev r.lt

theorem setObj_map {r : Nat} {es : Array MapEntry} {clock : Nat} (o : Obj) (hb : w.heap[r]? = some (.map es clock)) : (setObj r o).run P w = .ok () { w with heap := w.heap.setIfInBounds r o } := MapKept.run_setObj_map o hb

theorem mapUpdate_ok (r : Rel m h w) {cfg : Cfg} {t : TypeId} {a b c : V} {av bv cv : Value} {h' : Heap} (ha : R m h w a av) (hb : R m h w b bv) (hc : R m h w c cv) (hy : mapUpdateV P cfg h t a b c = some h') :
    ∃ w', (mapUpdate t av bv cv).run P w = .ok () w' ∧ Evo m h w m h' w' ∧ Rel m h' w' := by
  unfold mapUpdateV at hy
  split at hy
  · rename_i k e x k1 q e1 y hmk
    split at hy
    · rename_i k2 e2 l hmo
      split at hy
      · rename_i hcc
        simp only [Bool.and_eq_true, decide_eq_true_eq] at hcc
        obtain ⟨⟨⟨⟨rfl, rfl⟩, rfl⟩, rfl⟩, _⟩ := hcc
        cases hy
        obtain ⟨b', es, clock, hmb, rfl, hw, hm⟩ := R.mref_at r ha hmo
        cases hb; cases hc
        obtain ⟨ta, tb, hu, hua, hub, hz⟩ := mapKinds_ok hmk
        have hlive := live_of_mapOf hmo
        cases hf : fnd l q 0 with
        | none =>
          have hm' : MapR k e (mset l q y) (es.push { key := .int k q, val := .int e y, born := clock }) := by
            rw [mset_none l 0 hf]
            unfold MapR at hm ⊢
            simp [hm]
          obtain ⟨ev, rl⟩ := map_set (clock' := clock + 1) r hlive hmb hw hm'
          refine ⟨_, ?_, ev, rl⟩
          simp only [mapUpdate, Sem.run_bind, run_underlying hu, Result.andThen_ok, getObj_map hw, checkKey_int hua, findKey_int hua hm, hf, Option.map_none, setObj_map _ hw]
        | some p =>
          obtain ⟨j, v⟩ := p
          obtain ⟨h1, h2⟩ := mset_some (b := 0) (y := y) es.toList l 0 j v hm (by rw [hf, Nat.zero_add])
          have hm' : MapR k e (mset l q y) (es.modify j fun x => { x with key := .int k q, val := .int e y }) := by
            unfold MapR
            rw [← h1]
            simp
          obtain ⟨ev, rl⟩ := map_set (clock' := clock) r hlive hmb hw hm'
          refine ⟨_, ?_, ev, rl⟩
          have hk : ((es[j]?).map (·.key)).getD (.int k q) = .int k q := by
            rw [Array.getElem?_toList] at h2
            rw [h2]; rfl
          have hbits : sameBits 10000 (.int k q) (.int k q) = true := by simp [sameBits]
          simp only [mapUpdate, Sem.run_bind, run_underlying hu, Result.andThen_ok, getObj_map hw, checkKey_int hua, findKey_int hua hm, hf, Option.map_some, hk, keyThatStays, hbits, if_true, Sem.run_pure, setObj_map _ hw]
      · cases hy
    · cases hy
  · cases hy
end
end Go.Ab
