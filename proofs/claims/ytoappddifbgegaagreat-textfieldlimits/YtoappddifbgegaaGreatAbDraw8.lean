/- Several texts of this proof in one. -/
import Derived.Test.YtoappddifbgegaaGreatAbDraw3
set_option linter.all false
namespace Go.Ab
def only (Q : Exit → Act → World → Prop) : Exit → Act → World → Prop
  | .normal, a, w => Q .normal a w
  | _, _, _ => False
section
variable {P : Program} {ops : Array Oper} {Q : Exit → Act → World → Prop}
theorem not_letsOut : ¬ LetsOut (only Q) := fun ⟨_, _, h⟩ => h
def Ap (ops : Array Oper) (x y : Oper) : Prop := (∀ d, x.dst = some d → d ∉ y.looksAt ops) ∧ (∀ d, x.dst = some d → y.dst ≠ some d) ∧ (∀ d, y.dst = some d → d ∉ x.looksAt ops)
theorem Ap.of {x y : Oper} (h : x.apart ops y = true) : Ap ops x y := Oper.apart_spec h
theorem Ap.symm {x y : Oper} (h : Ap ops x y) : Ap ops y x := ⟨h.2.2, fun d hd hx => h.2.1 d hx hd, h.1⟩
def Blind (P : Program) (ops : Array Oper) (o : Oper) (a : Act) (u : Value) : Prop :=
  (Region.wanted o (yielded ops a.tmps) = true ∧ ∀ w, (execOp a.eval o).run P w = .ok (.value u) w) ∨ (Region.wanted o (yielded ops a.tmps) = false ∧ u = undef)
theorem Blind.put {o oj : Oper} {a : Act} {u z : Value} (hs : ∀ cs b, o.op ≠ .select cs b) (hb : Blind P ops o a u) (h : ∀ d, oj.dst = some d → d ∉ o.looksAt ops) : Blind P ops o (a.put oj.dst z) u := by
  unfold Blind
  rw [wanted_put o a oj.dst z h, execOp_put o hs a oj.dst z h]
  exact hb
theorem eval_defers {a : Act} {ds : List Deferred} : ({ a with defers := ds } : Act).eval = a.eval := by
  funext x; cases x <;> rfl
theorem Blind.defers {o : Oper} {a : Act} {u : Value} {ds : List Deferred} (hb : Blind P ops o a u) : Blind P ops o { a with defers := ds } u := by
  unfold Blind at *
  rw [eval_defers]
  exact hb
theorem wpOp_blind {i : Nat} {o : Oper} (ho : ops[i]? = some o) {a : Act} {u : Value} (hb : Blind P ops o a u) {K : Act → World → Prop} {w : World} (hK : K (a.put o.dst u) w) : wpOp P ops Q i K a w := by
  unfold wpOp
  rw [ho]
  simp only
  rcases hb with ⟨h1, h2⟩ | ⟨h1, rfl⟩
  · rw [h1]
    simp only [if_true]
    refine .inl ?_
    unfold Oper.wp
    rw [h2 w]
    exact hK
  · rw [h1]
    simp only [Bool.false_eq_true, if_false]
    exact hK
theorem wpOp_put {j : Nat} {oi oj : Oper} (hj : ops[j]? = some oj) (hap : Ap ops oi oj) (hsi : ∀ cs b, oi.op ≠ .select cs b) (hsj : ∀ cs b, oj.op ≠ .select cs b) {a : Act} {u : Value} (hb : Blind P ops oi a u)
    {K K' : Act → World → Prop} {w : World} (h : wpOp P ops (only Q) j K (a.put oi.dst u) w) (hK : ∀ a' w', Blind P ops oi a' u → K (a'.put oi.dst u) w' → K' a' w') : wpOp P ops (only Q) j K' a w := by
  obtain ⟨h1, h2, h3⟩ := hap
  have hcomm : ∀ (b : Act) (z : Value), (b.put oi.dst u).put oj.dst z = (b.put oj.dst z).put oi.dst u := fun b z => Act.put_comm b u z h2
  have fin : ∀ z w', K ((a.put oi.dst u).put oj.dst z) w' → K' (a.put oj.dst z) w' := fun z w' hk => hK _ _ (hb.put hsi h3) (by rw [← hcomm]; exact hk)
  unfold wpOp at *
  rw [hj] at h ⊢
  simp only at h ⊢
  rw [wanted_put oj a oi.dst u h1] at h
  split
  · rename_i hw
    rw [hw] at h
    simp only [if_true] at h
    rcases h with h | ⟨_, h⟩
    · refine .inl ?_
      unfold Oper.wp at h ⊢
      rw [execOp_put oj hsj a oi.dst u h1] at h
      generalize (execOp a.eval oj).run P w = r at h ⊢
      cases r with
      | ok nx w' =>
        cases nx <;> simp only [Oper.upon] at h ⊢ <;> try exact h
        case value z => exact fin z w' h
        case skip => exact fin undef w' h
        case defer d =>
          have e : ({ a.put oi.dst u with defers := d :: (a.put oi.dst u).defers } : Act) = ({ a with defers := d :: a.defers } : Act).put oi.dst u := by cases oi.dst <;> rfl
          rw [e, hcomm] at h
          exact hK _ _ (hb.defers.put hsi h3) h
        case enter f args =>
          refine h.mono ?_
          rintro (v | c | _) w'' he
          · exact fin v w'' he
          · exact he
          · exact he
        case row f args =>
          exact Rows.mono h fun z w'' hz => fin z w'' hz
      | halt x w' =>
        cases x <;> simp only [Oper.upon] at h ⊢ <;> exact h
    · exact absurd h not_letsOut
  · rename_i hw
    have hw' : Region.wanted oj (yielded ops a.tmps) = false := by simpa using hw
    rw [hw'] at h
    simp only [Bool.false_eq_true, if_false] at h
    exact fin undef w h
theorem wpAny_first (hsel : ∀ (j : Nat) (o : Oper) cs b, ops[j]? = some o → o.op ≠ .select cs b) {i : Nat} {oi : Oper} (hi : ops[i]? = some oi) {u : Value} : ∀ (fuel : Nat) (listed : Array Bool) (a : Act) (w : World), listed.size = ops.size → setOf listed i = false → Ready (setOf listed) oi →
    (∀ j oj, ops[j]? = some oj → j ≠ i → setOf listed j = false → (∀ S : Nat → Bool, (∀ q, setOf listed q = true → S q = true) → S i = false → Closed ops S → Ready S oj → Ap ops oi oj)) → Closed ops (setOf listed) →
    Blind P ops oi a u → wpAny P .any ops (only Q) fuel (listed.setIfInBounds i true) (a.put oi.dst u) w → wpAny P .any ops (only Q) (fuel + 1) listed a w := by
  intro fuel
  induction fuel with
  | zero =>
    intro listed a w hs hf hr hap hcl hb h
    have hil : i < listed.size := by rw [hs]; exact (Array.getElem?_eq_some_iff.1 hi).1
    refine ⟨fun hn => ?_, fun j hj => ?_⟩
    · have : i ∈ Region.ready .any ops listed := (mem_ready hs).2 ⟨oi, hi, hf, hr⟩
      rw [hn] at this; cases this
    · obtain ⟨oj, hoj, hjf, hjr⟩ := (mem_ready hs).1 hj
      by_cases hji : j = i
      · subst hji
        rw [hi] at hoj; cases hoj
        exact wpOp_blind hi hb h
      · exfalso
        have : j ∈ Region.ready .any ops (listed.setIfInBounds i true) := (mem_ready (by simp [hs])).2 ⟨oj, hoj, by rw [setOf_set hil, addTo]; simp [hji, hjf], by rw [setOf_set hil]; exact hjr.add⟩
        rw [h.1] at this; cases this
  | succ fuel ih =>
    intro listed a w hs hf hr hap hcl hb h
    have hil : i < listed.size := by rw [hs]; exact (Array.getElem?_eq_some_iff.1 hi).1
    refine ⟨fun hn => ?_, fun j hj => ?_⟩
    · have : i ∈ Region.ready .any ops listed := (mem_ready hs).2 ⟨oi, hi, hf, hr⟩
      rw [hn] at this; cases this
    · obtain ⟨oj, hoj, hjf, hjr⟩ := (mem_ready hs).1 hj
      by_cases hji : j = i
      · subst hji
        rw [hi] at hoj; cases hoj
        exact wpOp_blind hi hb h
      · have hjl : j < listed.size := by rw [hs]; exact (Array.getElem?_eq_some_iff.1 hoj).1
        have hij : i ≠ j := fun e => hji e.symm
        have hmem : j ∈ Region.ready .any ops (listed.setIfInBounds i true) := (mem_ready (by simp [hs])).2 ⟨oj, hoj, by rw [setOf_set hil, addTo]; simp [hji, hjf], by rw [setOf_set hil]; exact hjr.add⟩
        have hapj := hap j oj hoj hji hjf (setOf listed) (fun q hq => hq) hf hcl hjr
        refine wpOp_put hoj hapj (fun cs b => hsel i oi cs b hi) (fun cs b => hsel j oj cs b hoj) hb (h.2 j hmem) fun a' w' hb' hk => ?_
        have hsw : (listed.setIfInBounds i true).setIfInBounds j true = (listed.setIfInBounds j true).setIfInBounds i true := by
          apply Array.ext_getElem?
          intro q
          simp only [Array.getElem?_setIfInBounds]
          by_cases hqi : i = q
          · subst hqi; simp [hji, hil]
          · by_cases hqj : j = q
            · subst hqj; simp [hqi, hjl]
            · simp [hqi, hqj]
        rw [hsw] at hk
        refine ih (listed.setIfInBounds j true) a' w' (by simp [hs]) ?_ ?_ ?_ ?_ hb' hk
        · rw [setOf_set hjl]; simp [addTo, hij, hf]
        · rw [setOf_set hjl]; exact hr.add
        · intro q oq hoq hqi hqf S hsub hSi hSc hSr
          refine hap q oq hoq hqi ?_ S (fun z hz => hsub z (by rw [setOf_set hjl, addTo]; split <;> simp_all)) hSi hSc hSr
          rw [setOf_set hjl, addTo] at hqf
          split at hqf
          · cases hqf
          · exact hqf
        · rw [setOf_set hjl]; exact hcl.add hoj hjr
end
end Go.Ab
namespace Go.Ab
def isCall (o : Oper) : Bool :=
  match o.op with
  | .call { callee := .value _, .. } => true
  | .store .. => true
  | _ => false
def ldOK (ld : List Nat) (x : List Nat) : Bool := x.all fun b => !ld.contains b
def headStep (P : Program) (md : FuncId → Nat) (call : Callf) (cfg : Cfg) (n0 : Nat) (ops : Array Oper) (o : Oper) (fr : List V) (h : Heap) (x : List Nat) (ld : List Nat) : Option (V × Heap × List Nat × List Nat) :=
  match wantd ops fr o with
  | none => none
  | some false => some (.no, h, x, ld)
  | some true =>
    match o.op with
    | .call { callee := .value f, args, argTypes := _ } => match ev fr f, evAll fr args.toList with
      | some (.func (.func g) first captured), some vs =>
        match md g with
        | 0 => match callM md call ⟨h.length, [], h.length⟩ g ((first ++ vs) ++ captured) h with
          | some (v, h') => some (v, h', x, ld)
          | none => none
        | 3 => match callM md call ⟨h.length, [], h.length⟩ g ((first ++ vs) ++ captured) h with
          | some (v, h') => some (v, h', x, ld)
          | none => none
        | 1 => match (first ++ vs) ++ captured with
          | .ptr b _ :: _ =>
            if cfg.wr b && decide (b < n0) then
              match callM md call ⟨h.length, [b], h.length⟩ g ((first ++ vs) ++ captured) h with
              | some (v, h') => some (v, h', b :: x, ld)
              | none => none
            else none
          | _ => none
        | 2 => match callM md call ⟨h.length, [], h.length⟩ g ((first ++ vs) ++ captured) h with
          | some (v, h') => some (v, h', x, ld)
          | none => none
        | m =>
          if (decide (m = 4) || decide (m = 5)) && ((mapsIn h).all fun b => cfg.wr b && decide (b < n0)) then
            match callM md call ⟨h.length, mapsIn h, h.length⟩ g ((first ++ vs) ++ captured) h with
            | some (v, h') => some (v, h', mapsIn h ++ x, ld)
            | none => none
          else none
      | _, _ => none
    | .store t p y => match ev fr p with
      | some (.ptr b _) =>
        if cfg.wr b then
          match opV P ⟨h.length, [b], h.length⟩ fr h (.store t p y) with
          | some (v, h') => some (v, h', b :: x, ld)
          | none => none
        else none
      | _ => none
    | op => if headOp P op then
        match opV P cfg fr h op with
        | some (v, h') => some (v, h', x, match readsOf fr op with
          | some b => b :: ld
          | none => ld)
        | none => none
      else none
def headRun (P : Program) (md : FuncId → Nat) (call : Callf) (cfg : Cfg) (n0 : Nat) (ops : Array Oper) : List Oper → List V → Heap → List Nat → List Nat → Option (List V × Heap × List Nat × List Nat)
  | [], fr, h, x, ld => some (fr, h, x, ld)
  | o :: r, fr, h, x, ld => match headStep P md call cfg n0 ops o fr h x ld with
    | some (v, h', x', ld') => headRun P md call cfg n0 ops r (put fr o.dst v) h' x' ld'
    | none => none
def lenFl (P : Program) (ts : Array TypeId) : Bool :=
  match ts.toList with
  | [t] => match P.underlying t with
    | some (.slice e) => match P.underlying e with
      | some (.slice _) => true
      | _ => false
    | _ => false
  | _ => false
theorem lenFl_inv {P : Program} {ts : Array TypeId} (h : lenFl P ts = true) : ∃ t, ts = #[t] := by
  obtain ⟨l⟩ := ts
  unfold lenFl at h
  split at h
  · rename_i t ht
    exact ⟨t, by simp at ht; rw [ht]⟩
  · cases h
def floats (P : Program) (o : Oper) : Bool :=
  match o.op with
  | .move _ | .extract .. | .unOp .. => true
  | .binOp _ t _ _ _ => match P.underlying t with
    | some (.int _) => true
    | _ => false
  | .call { callee := .builtin .max, .. } => true
  | .call { callee := .builtin .min, .. } => true
  | .call { callee := .builtin .len, args := _, argTypes := ts } => lenFl P ts
  | _ => false
def floatMask (P : Program) : Nat → List Oper → Nat
  | _, [] => 0
  | i, o :: r => (if floats P o then 2 ^ i else 0) ||| floatMask P (i + 1) r
def headLen (fm : Nat) (ms : List Nat) (n : Nat) : Nat := (List.range n).foldl (fun acc j => if (ms.getD j 0 ||| fm) % 2 ^ j == 2 ^ j - 1 then acc else j + 1) 0
def edgesBack (o : Oper) (j : Nat) : Bool := o.after.toList.all fun e => !Region.binds .any e || decide (e.on < j)
def pairsOK (ops : Array Oper) (mj : Nat) (oj : Oper) : Nat → List Oper → Bool
  | _, [] => true
  | i, oi :: r => (mj.testBit i || (oi.apart ops oj && !(isCall oi && isCall oj))) && pairsOK ops mj oj (i + 1) r
def headsOK (ops : Array Oper) (ms : List Nat) : List Oper → Nat → List Oper → Bool
  | _, _, [] => true
  | before, j, o :: r => pairsOK ops (ms.getD j 0) o 0 before && headsOK ops ms (before ++ [o]) (j + 1) r
def pairsT (P : Program) (ops : Array Oper) (mj : Nat) (oj : Oper) : Nat → List Oper → Bool
  | _, [] => true
  | i, oi :: r => (mj.testBit i || (floats P oi && oi.apart ops oj)) && pairsT P ops mj oj (i + 1) r
def tailsOK (P : Program) (ops : Array Oper) (ms : List Nat) : List Oper → Nat → List Oper → Bool
  | _, _, [] => true
  | before, j, o :: r => (ms.getD j 0 == 2 ^ j - 1 || pairsT P ops (ms.getD j 0) o 0 before) && tailsOK P ops ms (before ++ [o]) (j + 1) r
def noSel (o : Oper) : Bool :=
  match o.op with
  | .select .. => false
  | _ => true
def backOK : Nat → List Oper → Bool
  | _, [] => true
  | j, o :: r => edgesBack o j && backOK (j + 1) r
def okOps (P : Program) (ops : Array Oper) (ms : List Nat) (N : Nat) : Bool :=
  decide (N ≤ ops.size) && tailsOK P ops ms (ops.toList.take N) N (ops.toList.drop N) && backOK 0 ops.toList && headsOK ops ms [] 0 (ops.toList.take N) && ops.toList.all noSel
def appB (o : Oper) : Bool :=
  match o.op with
  | .call { callee := .builtin .append, .. } => true
  | _ => false
def freeB (o : Oper) : Bool :=
  match o.op with
  | .move (.const _) => o.after.isEmpty
  | _ => false
def popOK (ops : Array Oper) : Bool :=
  match ops.toList.getLast? with
  | some o => freeB o && ops.toList.all (fun q => q.guard.isNone) && ops.toList.any appB && ops.toList.dropLast.all fun q => o.apart ops q
  | none => false
def drawR1 (P : Program) (md : FuncId → Nat) (call : Callf) (cfg : Cfg) (ops : Array Oper) (fr : List V) (h : Heap) : Option (List V × Heap) :=
  let ms := befs [] ops.toList
  let N := headLen (floatMask P 0 ops.toList) ms ops.size
  if okOps P ops ms N then
    match headRun P md call cfg h.length ops (ops.toList.take N) fr h [] [] with
    | some (fr1, h1, x, ld) =>
      if ldOK ld x then runOps P md call cfg ops (ops.toList.drop N) fr1 h1 else none
    | none => none
  else none
/-! Regions of loads and stores of single cells, in whatever order -/
def sOp (o : Oper) : Bool :=
  match o.op with
  | .move _ | .fieldAddr .. | .indexAddr .. | .load .. | .store .. | .binOp .. => true
  | _ => false
def dstsOK : List Oper → Bool
  | [] => true
  | o :: r => r.all (fun q => o.dst.isNone || q.dst != o.dst) && dstsOK r
def sOK (P : Program) (ops : Array Oper) : Bool :=
  ops.toList.all sOp && ops.toList.all (fun q => q.guard.isNone) && dstsOK ops.toList && (ops.toList.dropWhile fun o => !isCall o).any (fun o => match o.op with | .fieldAddr .. => true | _ => false) && okOps P ops (befs [] ops.toList) ops.size
def accS (fr : List V) (o : Oper) : Option (Bool × Nat × Nat) :=
  match o.op with
  | .load _ a => match ev fr a with
    | some (.ptr b k) => some (false, b, k)
    | _ => none
  | .store _ a _ => match ev fr a with
    | some (.ptr b k) => some (true, b, k)
    | _ => none
  | _ => none
abbrev Eff := Option Tmp × V × Option (Nat × Nat × V)
def setC (h : Heap) (b k : Nat) (u : V) : Heap :=
  match blockOf h b with
  | some cs => h.set b (some (cs.set k u))
  | none => h
def appE (st : List V × Heap) (e : Eff) : List V × Heap := (put st.1 e.1 e.2.1, match e.2.2 with
  | some (b, k, u) => setC st.2 b k u
  | none => st.2)
def effS (fr : List V) (o : Oper) (v : V) : Option Eff :=
  match o.op with
  | .store _ a x => match ev fr a, ev fr x with
    | some (.ptr b k), some u => if u.leaf then some (o.dst, v, some (b, k, u)) else none
    | _, _ => none
  | .load .. => if v.leaf then some (o.dst, v, none) else none
  | _ => some (o.dst, v, none)
def okAcc (x : Option (Bool × Nat × Nat)) (l : List (Option (Bool × Nat × Nat))) : Bool := l.all fun y => match x, y with
  | some (w, c), some (w', c') => !(w || w') || decide (c ≠ c')
  | _, _ => true
def runS (P : Program) (cfg : Cfg) : List Oper → List V × Heap → List (Option (Bool × Nat × Nat)) → Option (List Eff)
  | [], _, _ => some []
  | o :: r, st, l => match opV P cfg st.1 st.2 o.op with
    | some (v, _) => match effS st.1 o v with
      | some e => if okAcc (accS st.1 o) l then (runS P cfg r (appE st e) (l ++ [accS st.1 o])).map (e :: ·) else none
      | none => none
    | none => none
def drawS (P : Program) (cfg : Cfg) (ops : Array Oper) (fr : List V) (h : Heap) : Option (List V × Heap) :=
  (runS P cfg ops.toList (fr, h) []).map fun E => E.foldl appE (fr, h)
/-! Regions whose writers (calls, stores) stand in one order; loads look at blocks that no one in the region writes -/
def vcallB (o : Oper) : Bool :=
  match o.op with
  | .call { callee := .value _, .. } => true
  | _ => false
def oOp (o : Oper) : Bool :=
  match o.op with
  | .move _ | .assign _ | .fieldAddr .. | .indexAddr .. | .load .. | .store .. | .binOp .. | .nilCheck _ => true
  | .call { callee := .value _, .. } => true
  | .slice _ _ _ _ none => true
  | .buildSlice .. => true
  | .call { callee := .builtin .append, .. } => true
  | _ => false
def isW (o : Oper) : Bool :=
  match o.op with
  | .call { callee := .value _, .. } => true
  | .store .. => true
  | .buildSlice .. => true
  | .call { callee := .builtin .append, .. } => true
  | _ => false
def ordOK (ms : List Nat) (l : List Oper) : Bool := (List.range l.length).all fun j => (List.range j).all fun i => match l[i]?, l[j]? with
  | some p, some q => !(isW p && isW q) || (ms.getD j 0).testBit i
  | _, _ => true
theorem ord_of_ok {ms : List Nat} {l : List Oper} (h : ordOK ms l = true) {i j : Nat} {p q : Oper} (hij : i < j) (hp : l[i]? = some p) (hq : l[j]? = some q) (h1 : isW p = true) (h2 : isW q = true) : (ms.getD j 0).testBit i = true := by
  unfold ordOK at h
  rw [List.all_eq_true] at h
  have h3 := h j (List.mem_range.2 (List.getElem?_eq_some_iff.1 hq).1)
  rw [List.all_eq_true] at h3
  have h4 := h3 i (List.mem_range.2 hij)
  rw [hp, hq] at h4
  simpa [h1, h2] using h4
def oOK (P : Program) (ops : Array Oper) : Bool :=
  ops.toList.all oOp && ops.toList.all (fun q => q.guard.isNone) && dstsOK ops.toList && okOps P ops (befs [] ops.toList) ops.size && ordOK (befs [] ops.toList) ops.toList && (ops.toList.drop (headLen (floatMask P 0 ops.toList) (befs [] ops.toList) ops.size)).all fun q => !vcallB q
def isLd (o : Oper) : Bool :=
  match o.op with
  | .load .. => true
  | _ => false
def isSt (o : Oper) : Bool :=
  match o.op with
  | .store .. => true
  | _ => false
def lsOK (ms : List Nat) (l : List Oper) : Bool := (List.range l.length).all fun j => (List.range j).all fun i => match l[i]?, l[j]? with
  | some p, some q => !((isLd p && isSt q) || (isSt p && isLd q)) || (ms.getD j 0).testBit i
  | _, _ => true
theorem ls_of_ok {ms : List Nat} {l : List Oper} (h : lsOK ms l = true) {i j : Nat} {p q : Oper} (hij : i < j) (hp : l[i]? = some p) (hq : l[j]? = some q) (h1 : (isLd p = true ∧ isSt q = true) ∨ (isSt p = true ∧ isLd q = true)) : (ms.getD j 0).testBit i = true := by
  unfold lsOK at h
  rw [List.all_eq_true] at h
  have h3 := h j (List.mem_range.2 (List.getElem?_eq_some_iff.1 hq).1)
  rw [List.all_eq_true] at h3
  have h4 := h3 i (List.mem_range.2 hij)
  rw [hp, hq] at h4
  rcases h1 with ⟨h1, h2⟩ | ⟨h1, h2⟩ <;> simpa [h1, h2] using h4
def stepO (P : Program) (md : FuncId → Nat) (call : Callf) (cfg : Cfg) (n0 : Nat) (o : Oper) (fr : List V) (h : Heap) (x ld : List Nat) : Option (V × Heap × List Nat × List Nat) :=
  match o.op with
  | .call { callee := .value f, args, argTypes := tys } => match ev fr f with
    | some (.func (.func g) _ _) =>
      if md g = 0 ∨ md g = 2 ∨ md g = 3 then
        match opEv P md call ⟨h.length, [], h.length⟩ fr h (.call { callee := .value f, args := args, argTypes := tys }) with
        | some (v, h') => some (v, h', x, ld)
        | none => none
      else none
    | _ => none
  | .store t p y => match ev fr p with
    | some (.ptr b _) => match opV P cfg fr h (.store t p y) with
      | some (v, h') => some (v, h', b :: x, ld)
      | none => none
    | _ => none
  | .load t p => match opV P cfg fr h (.load t p) with
    | some (v, h') => match ev fr p with
      | some (.ptr b _) => if b < n0 then some (v, h', x, b :: ld) else none
      | _ => some (v, h', x, ld)
    | none => none
  | .slice t y lo hi none => match ev fr y with
    | some (.ptr _ _) => none
    | _ => match opV P cfg fr h (.slice t y lo hi none) with
      | some (v, h') => some (v, h', x, ld)
      | none => none
  | .call { callee := .builtin .append, args, argTypes } => match evAll fr args.toList with
    | some (.nils :: _) => match opV P cfg fr h (.call { callee := .builtin .append, args := args, argTypes := argTypes }) with
      | some (v, h') => some (v, h', x, ld)
      | none => none
    | _ => none
  | op => match opV P cfg fr h op with
    | some (v, h') => some (v, h', x, ld)
    | none => none
def runO (P : Program) (md : FuncId → Nat) (call : Callf) (cfg : Cfg) (n0 : Nat) : List Oper → List V → Heap → List Nat → List Nat → Option (List V × Heap × List Nat × List Nat)
  | [], fr, h, x, ld => some (fr, h, x, ld)
  | o :: r, fr, h, x, ld => match stepO P md call cfg n0 o fr h x ld with
    | some (v, h', x', ld') => runO P md call cfg n0 r (put fr o.dst v) h' x' ld'
    | none => none
def drawO (P : Program) (md : FuncId → Nat) (call : Callf) (cfg : Cfg) (ops : Array Oper) (fr : List V) (h : Heap) : Option (List V × Heap) :=
  match runO P md call cfg h.length ops.toList fr h [] [] with
  | some (fr', h', x, ld) => if ldOK ld x || lsOK (befs [] ops.toList) ops.toList then some (fr', h') else none
  | none => none
def drawR (P : Program) (md : FuncId → Nat) (call : Callf) (cfg : Cfg) (ops : Array Oper) (fr : List V) (h : Heap) : Option (List V × Heap) :=
  if popOK ops then
    match ops.toList.getLast? with
    | some o => match o.op with
      | .move x => match ev fr x with
        | some v => drawR1 P md call cfg ops.toList.dropLast.toArray (put fr o.dst v) h
        | none => none
      | _ => none
    | none => none
  else if sOK P ops then drawS P cfg ops fr h
  else match drawR1 P md call cfg ops fr h with
    | some r => some r
    | none => if oOK P ops then drawO P md call cfg ops fr h else none
section
variable {P : Program} {ops : Array Oper}
theorem back_of_ok : ∀ (l : List Oper) (j : Nat), backOK j l = true → ∀ i o, l[i]? = some o → ∀ e ∈ o.after.toList, Region.binds .any e = true → e.on < j + i
  | [], _, _, i, o, h => by simp at h
  | p :: l, j, hb, i, o, h => by
    simp only [backOK, Bool.and_eq_true] at hb
    cases i with
    | zero =>
      simp at h
      subst h
      intro e he hbind
      have := List.all_eq_true.1 hb.1 e he
      simpa [hbind] using this
    | succ i =>
      have := back_of_ok l (j + 1) hb.2 i o (by simpa using h)
      intro e he hbind
      have := this e he hbind
      omega
theorem pairs_of_ok {mj : Nat} {oj : Oper} : ∀ (l : List Oper) (i0 : Nat), pairsOK ops mj oj i0 l = true → ∀ i oi, l[i]? = some oi → mj.testBit (i0 + i) = true ∨ (oi.apart ops oj = true ∧ ¬ (isCall oi = true ∧ isCall oj = true))
  | [], _, _, i, oi, h => by simp at h
  | p :: l, i0, hb, i, oi, h => by
    simp only [pairsOK, Bool.and_eq_true, Bool.or_eq_true, Bool.not_eq_true'] at hb
    cases i with
    | zero =>
      simp at h
      subst h
      rcases hb.1 with h1 | ⟨h1, h2⟩
      · exact .inl h1
      · exact .inr ⟨h1, by simpa using h2⟩
    | succ i =>
      have := pairs_of_ok l (i0 + 1) hb.2 i oi (by simpa using h)
      rwa [show i0 + 1 + i = i0 + (i + 1) by omega] at this
theorem heads_of_ok {ms : List Nat} : ∀ (l before : List Oper) (j0 : Nat), j0 = before.length → headsOK ops ms before j0 l = true →
    ∀ i j oi oj, i < j → (before ++ l)[i]? = some oi → (before ++ l)[j]? = some oj → j0 ≤ j → (ms.getD j 0).testBit i = true ∨ (oi.apart ops oj = true ∧ ¬ (isCall oi = true ∧ isCall oj = true))
  | [], before, j0, hj0, _, i, j, oi, oj, hij, hi, hj, hge => by
    rw [List.getElem?_eq_none (by simp; omega)] at hj
    cases hj
  | o :: l, before, j0, hj0, hb, i, j, oi, oj, hij, hi, hj, hge => by
    simp only [headsOK, Bool.and_eq_true] at hb
    by_cases hje : j = j0
    · subst hje
      rw [hj0, List.getElem?_append_right (by omega), Nat.sub_self] at hj
      simp at hj
      subst hj
      rw [List.getElem?_append_left (by omega)] at hi
      have := pairs_of_ok before 0 hb.1 i oi hi
      simpa using this
    · exact heads_of_ok l (before ++ [o]) (j0 + 1) (by simp; omega) hb.2 i j oi oj hij (by simpa using hi) (by simpa using hj) (by omega)
theorem pairsT_of_ok {mj : Nat} {oj : Oper} : ∀ (l : List Oper) (i0 : Nat), pairsT P ops mj oj i0 l = true → ∀ i oi, l[i]? = some oi → mj.testBit (i0 + i) = true ∨ (floats P oi = true ∧ oi.apart ops oj = true)
  | [], _, _, i, oi, h => by simp at h
  | p :: l, i0, hb, i, oi, h => by
    simp only [pairsT, Bool.and_eq_true, Bool.or_eq_true] at hb
    cases i with
    | zero =>
      simp at h
      subst h
      exact hb.1
    | succ i =>
      have := pairsT_of_ok l (i0 + 1) hb.2 i oi (by simpa using h)
      rwa [show i0 + 1 + i = i0 + (i + 1) by omega] at this
theorem tails_of_ok {ms : List Nat} : ∀ (l before : List Oper) (j0 : Nat), j0 = before.length → tailsOK P ops ms before j0 l = true →
    ∀ i j oi oj, i < j → (before ++ l)[i]? = some oi → (before ++ l)[j]? = some oj → j0 ≤ j → (ms.getD j 0).testBit i = true ∨ (floats P oi = true ∧ oi.apart ops oj = true)
  | [], before, j0, hj0, _, i, j, oi, oj, hij, hi, hj, hge => by
    rw [List.getElem?_eq_none (by simp; omega)] at hj
    cases hj
  | o :: l, before, j0, hj0, hb, i, j, oi, oj, hij, hi, hj, hge => by
    simp only [tailsOK, Bool.and_eq_true, Bool.or_eq_true, beq_iff_eq] at hb
    by_cases hje : j = j0
    · subst hje
      rw [hj0, List.getElem?_append_right (by omega), Nat.sub_self] at hj
      simp at hj
      subst hj
      rw [List.getElem?_append_left (by omega)] at hi
      rcases hb.1 with h | h
      · left
        rw [h, Nat.testBit_two_pow_sub_one]
        simpa using hij
      · have := pairsT_of_ok before 0 h i oi hi
        simpa using this
    · exact tails_of_ok l (before ++ [o]) (j0 + 1) (by simp; omega) hb.2 i j oi oj hij (by simpa using hi) (by simpa using hj) (by omega)
structure Static (P : Program) (ops : Array Oper) (N : Nat) : Prop where
  le : N ≤ ops.size
  back : Back ops
  tail : ∀ i j oi oj, N ≤ j → i < j → ops[i]? = some oi → ops[j]? = some oj → ord ops i j = true ∨ (floats P oi = true ∧ oi.apart ops oj = true)
  head : ∀ i j oi oj, i < j → j < N → ops[i]? = some oi → ops[j]? = some oj → ord ops i j = true ∨ (oi.apart ops oj = true ∧ ¬ (isCall oi = true ∧ isCall oj = true))
  nosel : ∀ (j : Nat) (o : Oper) cs b, ops[j]? = some o → o.op ≠ .select cs b
theorem static_of_ok {N : Nat} (h : okOps P ops (befs [] ops.toList) N = true) : Static P ops N := by
  simp only [okOps, Bool.and_eq_true, decide_eq_true_eq] at h
  obtain ⟨⟨⟨⟨h1, h2⟩, h3⟩, h4⟩, h5⟩ := h
  refine ⟨h1, fun i o ho e he hb => ?_, fun i j oi oj hN hij hi hj => ?_, fun i j oi oj hij hjN hi hj => ?_, fun j o cs b ho he => ?_⟩
  · have := back_of_ok ops.toList 0 h3 i o (by simpa using ho) e he hb
    omega
  · have := tails_of_ok (P := P) (ops.toList.drop N) (ops.toList.take N) N (by simp; omega) h2 i j oi oj hij (by rw [List.take_append_drop]; simpa using hi) (by rw [List.take_append_drop]; simpa using hj) hN
    exact this
  · have := heads_of_ok (ops.toList.take N) [] 0 rfl h4 i j oi oj hij (by rw [List.nil_append, List.getElem?_take, if_pos (by omega)]; simpa using hi) (by rw [List.nil_append, List.getElem?_take, if_pos hjN]; simpa using hj) (by omega)
    exact this
  · have hm : o ∈ ops.toList := List.mem_of_getElem? (by simpa using ho)
    have := List.all_eq_true.1 h5 o hm
    simp [noSel, he] at this
/-! ### The trace of the first operations -/
theorem head_trace {md : FuncId → Nat} {call : Callf} {cfg : Cfg} {n0 : Nat} : ∀ (l : List Oper) (fr : List V) (h : Heap) (x : List Nat) (ld : List Nat) {fr' : List V} {h' : Heap} {x' : List Nat} {ld' : List Nat},
    headRun P md call cfg n0 ops l fr h x ld = some (fr', h', x', ld') →
    ∃ (F : Nat → List V) (H : Nat → Heap) (X : Nat → List Nat) (D : Nat → List Nat) (v : Nat → V), F 0 = fr ∧ H 0 = h ∧ X 0 = x ∧ D 0 = ld ∧ F l.length = fr' ∧ H l.length = h' ∧ X l.length = x' ∧ D l.length = ld' ∧
      ∀ i o, l[i]? = some o → headStep P md call cfg n0 ops o (F i) (H i) (X i) (D i) = some (v i, H (i + 1), X (i + 1), D (i + 1)) ∧ F (i + 1) = put (F i) o.dst (v i)
  | [], fr, h, x, ld, fr', h', x', ld', hr => by
    simp only [headRun, Option.some.injEq, Prod.mk.injEq] at hr
    obtain ⟨rfl, rfl, rfl, rfl⟩ := hr
    exact ⟨fun _ => fr, fun _ => h, fun _ => x, fun _ => ld, fun _ => .no, rfl, rfl, rfl, rfl, rfl, rfl, rfl, rfl, fun i o hi => by simp at hi⟩
  | o :: l, fr, h, x, ld, fr', h', x', ld', hr => by
    simp only [headRun] at hr
    split at hr
    · rename_i v h1 x1 ld1 hs
      obtain ⟨F, H, X, D, vs, e1, e2, e3, e4, e5, e6, e7, e8, hst⟩ := head_trace l _ _ _ _ hr
      refine ⟨fun i => match i with | 0 => fr | i + 1 => F i, fun i => match i with | 0 => h | i + 1 => H i, fun i => match i with | 0 => x | i + 1 => X i, fun i => match i with | 0 => ld | i + 1 => D i,
        fun i => match i with | 0 => v | i + 1 => vs i, rfl, rfl, rfl, rfl, e5, e6, e7, e8, fun i oi hi => ?_⟩
      cases i with
      | zero =>
        simp at hi
        subst hi
        simp only [e1, e2, e3, e4]
        exact ⟨hs, trivial⟩
      | succ i => exact hst i oi (by simpa using hi)
    · cases hr
def frS (ops : Array Oper) (v : Nat → V) (S : Nat → Bool) (fr : List V) : Nat → List V
  | 0 => fr
  | i + 1 => match ops[i]? with
    | some o => if S i then put (frS ops v S fr i) o.dst (v i) else frS ops v S fr i
    | none => frS ops v S fr i
theorem put_get {fr : List V} {d : Option Tmp} {v : V} {s : Nat} (hne : d ≠ some s) : (put fr d v)[s]? = fr[s]? := by
  cases d with
  | none => rfl
  | some d => simp only [put]; rw [List.getElem?_set_ne (fun e => hne (by rw [e]))]
theorem put_length (fr : List V) (d : Option Tmp) (v : V) : (put fr d v).length = fr.length := by cases d <;> simp [put]
theorem frS_length {v : Nat → V} {S : Nat → Bool} {fr : List V} (n : Nat) : (frS ops v S fr n).length = fr.length := by
  induction n with
  | zero => rfl
  | succ n ih =>
    simp only [frS]
    split
    · split
      · rw [put_length, ih]
      · exact ih
    · exact ih
theorem frS_slot {v : Nat → V} {S S' : Nat → Bool} {fr : List V} {s : Nat} (n : Nat) (h : ∀ j o, j < n → ops[j]? = some o → S j = S' j ∨ o.dst ≠ some s) : (frS ops v S fr n)[s]? = (frS ops v S' fr n)[s]? := by
  induction n with
  | zero => rfl
  | succ n ih =>
    have ih := ih fun j o hj ho => h j o (by omega) ho
    simp only [frS]
    split
    · rename_i o ho
      rcases h n o (by omega) ho with he | hne
      · rw [he]
        split
        · cases hd : o.dst with
          | none => exact ih
          | some d =>
            simp only [put]
            by_cases hds : d = s
            · subst hds
              rw [List.getElem?_set, List.getElem?_set, frS_length, frS_length]
              simp
            · rw [List.getElem?_set_ne hds, List.getElem?_set_ne hds]; exact ih
        · exact ih
      · split <;> split <;> simp only [put_get hne, ih]
    · exact ih
theorem frS_below {v : Nat → V} {fr : List V} {i : Nat} (n : Nat) (hi : i ≤ n) : frS ops v (fun j => decide (j < i)) fr n = frS ops v (fun _ => true) fr i := by
  have step : ∀ k, k ≤ i → frS ops v (fun j => decide (j < i)) fr k = frS ops v (fun _ => true) fr k := by
    intro k hk
    induction k with
    | zero => rfl
    | succ k ih => simp only [frS, ih (by omega), show k < i by omega, decide_true]
  induction n with
  | zero =>
    obtain rfl : i = 0 := by omega
    rfl
  | succ n ih =>
    by_cases hin : i = n + 1
    · rw [hin] at step ⊢; exact step (n + 1) (Nat.le_refl _)
    · have h1 := ih (by omega)
      simp only [frS, show ¬ n < i by omega, decide_false, Bool.false_eq_true, if_false]
      split <;> exact h1
theorem put_comm {fr : List V} {d d' : Option Tmp} {u v : V} (hne : ∀ s, d = some s → d' ≠ some s) : put (put fr d u) d' v = put (put fr d' v) d u := by
  cases d with
  | none => rfl
  | some d => cases d' with
    | none => rfl
    | some d' =>
      have : d ≠ d' := fun e => hne d rfl (by rw [e])
      simp only [put]
      rw [List.set_comm _ _ this]
theorem frS_add {v : Nat → V} {S : Nat → Bool} {fr : List V} {i : Nat} {o : Oper} (ho : ops[i]? = some o) (hS : S i = false) (n : Nat) (hi : i < n)
    (hlate : ∀ j oj, i < j → j < n → ops[j]? = some oj → S j = true → ∀ s, o.dst = some s → oj.dst ≠ some s) : frS ops v (addTo S i) fr n = put (frS ops v S fr n) o.dst (v i) := by
  have low : ∀ k, k ≤ i → frS ops v (addTo S i) fr k = frS ops v S fr k := by
    intro k hk
    induction k with
    | zero => rfl
    | succ k ih =>
      have : addTo S i k = S k := by simp [addTo, show k ≠ i by omega]
      simp only [frS, ih (by omega), this]
  induction n with
  | zero => omega
  | succ n ih =>
    by_cases hin : n = i
    · subst hin
      have h1 : addTo S n n = true := by simp [addTo]
      simp only [frS, ho, h1, hS, if_true, Bool.false_eq_true, if_false, low n (Nat.le_refl _)]
    · have ih := ih (by omega) fun j oj h1 h2 h3 h4 => hlate j oj h1 (by omega) h3 h4
      have h1 : addTo S i n = S n := by simp [addTo, hin]
      simp only [frS, h1]
      split
      · rename_i on hon
        split
        · rename_i hSn
          rw [ih, put_comm (hlate n on (by omega) (by omega) hon hSn)]
        · exact ih
      · exact ih
end
end Go.Ab
namespace Go.Ab
section
variable {P : Program} {ops : Array Oper}
theorem opV_head_heap {cfg : Cfg} {fr : List V} {h h' : Heap} {op : Op} {v : V} (hop : headOp P op = true) (hv : opV P cfg fr h op = some (v, h')) : h' = h ∨ ∃ n, h' = h ++ [n] := by
  cases op <;> simp only [headOp, Bool.false_eq_true] at hop
  case call c =>
    obtain ⟨callee, args, tys⟩ := c
    cases callee with
    | value f => simp at hop
    | invoke r n => simp at hop
    | builtin b =>
      simp only [opV] at hv
      split at hv
      · cases hv
      · split at hv
        · exact .inl (map_pair hv).2
        · simp at hop
        · exact .inl (map_pair hv).2
        · exact .inl (map_pair hv).2
        · simp at hop
        · cases hv
  case convert s d y =>
    simp only [opV] at hv
    split at hv
    · split at hop
      · rename_i k hd
        unfold convV at hv
        rw [hd] at hv
        split at hv
        · rename_i h1 h2; cases h2
        · split at hv
          · cases hv; exact .inl rfl
          · cases hv
        · rename_i h1 h2; cases h2
        · rename_i h1 h2; cases h2
        · cases hv
      · cases hop
    · cases hv
  case makeMap t r =>
    cases r with
    | some o => simp [opV] at hv
    | none =>
      simp only [opV] at hv
      unfold makeMapV at hv
      repeat' split at hv
      all_goals first | (cases hv; done) | (cases hv; exact .inr ⟨_, rfl⟩)
  case slice t y l hh mx =>
    cases mx with
    | none =>
      simp only [opV] at hv
      split at hv
      · exact .inl (map_pair hv).2
      · cases hv
    | some o => simp [opV] at hv
  all_goals
    simp only [opV] at hv
    repeat' split at hv
    all_goals first
      | (cases hv; done)
      | exact .inl (map_pair hv).2
      | (cases hv; first | exact .inl rfl | exact .inr ⟨_, rfl⟩)
      | (unfold buildSliceV at hv; repeat' split at hv
         all_goals first | (cases hv; done) | (cases hv; exact .inr ⟨_, rfl⟩))
      | (unfold makeSliceV at hv; repeat' split at hv
         all_goals first | (cases hv; done) | (cases hv; exact .inr ⟨_, rfl⟩))
theorem opV_store_len {c : Cfg} {fr : List V} {h h' : Heap} {t : TypeId} {p y : Operand} {v : V} (hv : opV P c fr h (.store t p y) = some (v, h')) : h'.length = h.length := by
  simp only [opV] at hv
  split at hv
  · split at hv
    · rename_i h1 hs
      cases hv
      unfold storeV at hs
      repeat' split at hs
      all_goals first
        | (cases hs; done)
        | (unfold storeCellsV at hs; repeat' split at hs
           all_goals first | (cases hs; done) | (cases hs; simp))
    · cases hv
  · cases hv
theorem opV_store_live {c : Cfg} {fr : List V} {h h' : Heap} {t : TypeId} {p y : Operand} {v : V} {b off : Nat} (hp : ev fr p = some (.ptr b off)) (hv : opV P c fr h (.store t p y) = some (v, h')) : ∃ cs, blockOf h b = some cs := by
  simp only [opV, hp] at hv
  split at hv
  · rename_i q z hq hz
    cases hq
    split at hv
    · rename_i h1 hs
      unfold storeV at hs
      split at hs
      · rename_i heq _ _
        cases heq
        split at hs
        · unfold storeCellsV at hs
          split at hs
          · rename_i cs hcs
            exact ⟨cs, hcs⟩
          · cases hs
        · cases hs
      · cases hs
    · cases hv
  · cases hv
def Kind (P : Program) (md : FuncId → Nat) (call : Callf) (cfg : Cfg) (n0 : Nat) (ops : Array Oper) (o : Oper) (fr : List V) (h : Heap) (v : V) (h' : Heap) (x : List Nat) : Prop :=
  (wantd ops fr o = some false ∧ v = .no ∧ h' = h) ∨
  (wantd ops fr o = some true ∧ isCall o = false ∧ headOp P o.op = true ∧ opV P cfg fr h o.op = some (v, h') ∧ ∀ b ∈ x, readsOf fr o.op ≠ some b) ∨
  (wantd ops fr o = some true ∧ isCall o = true ∧ h.length ≤ h'.length ∧ ∃ c : Cfg, c.thr = h.length ∧ opEv P md call c fr h o.op = some (v, h') ∧ (∀ b, b < h.length → ¬ b ∈ x → c.wr b = false) ∧
    (∀ b, n0 ≤ b → b < h.length → c.wr b = true → ∃ t p y off cs, o.op = .store t p y ∧ ev fr p = some (.ptr b off) ∧ blockOf h b = some cs))
theorem head_info (_hN : Named P) {md : FuncId → Nat} {call : Callf} (hcall : CallOK P call) {cfg : Cfg} {n0 : Nat} {o : Oper} {fr : List V} {h h' : Heap} {x x' : List Nat} {ld ld' : List Nat} {v : V}
    (hs : headStep P md call cfg n0 ops o fr h x ld = some (v, h', x', ld')) :
    (∀ b ∈ x, b ∈ x') ∧ (∀ b ∈ x', b ∈ x ∨ cfg.wr b = true) ∧ (∀ b ∈ ld, b ∈ ld') ∧
      ∀ y : List Nat, (∀ b ∈ x', b ∈ y) → (∀ b ∈ y, ¬ b ∈ ld') → Kind P md call cfg n0 ops o fr h v h' y := by
  unfold headStep at hs
  split at hs
  · cases hs
  · rename_i hw
    simp only [Option.some.injEq, Prod.mk.injEq] at hs
    obtain ⟨rfl, rfl, rfl, rfl⟩ := hs
    exact ⟨fun b h => h, fun b h => .inl h, fun b h => h, fun y _ _ => .inl ⟨hw, rfl, rfl⟩⟩
  · rename_i hw
    split at hs
    · rename_i f args tys hop
      have hic : isCall o = true := by simp [isCall, hop]
      split at hs
      · rename_i g first captured vs hf hvs
        split at hs
        · rename_i hm
          split at hs
          · rename_i v1 h1 hc
            simp only [Option.some.injEq, Prod.mk.injEq] at hs
            obtain ⟨rfl, rfl, rfl, rfl⟩ := hs
            obtain ⟨hhs, _⟩ := callM_ok hcall hc
            refine ⟨fun b h => h, fun b h => .inl h, fun b h => h, fun y _ _ => .inr (.inr ⟨hw, hic, hhs.len, ⟨h.length, [], h.length⟩, rfl, ?_, fun b hb _ => ?_, fun b _ hb hwb => ?_⟩)⟩
            · simp only [opEv, hop, hf, hvs]; exact hc
            · simp [Cfg.wr]; omega
            · simp [Cfg.wr] at hwb; omega
          · cases hs
        · rename_i hm
          split at hs
          · rename_i v1 h1 hc
            simp only [Option.some.injEq, Prod.mk.injEq] at hs
            obtain ⟨rfl, rfl, rfl, rfl⟩ := hs
            obtain ⟨hhs, _⟩ := callM_ok hcall hc
            refine ⟨fun b h => h, fun b h => .inl h, fun b h => h, fun y _ _ => .inr (.inr ⟨hw, hic, hhs.len, ⟨h.length, [], h.length⟩, rfl, ?_, fun b hb _ => ?_, fun b _ hb hwb => ?_⟩)⟩
            · simp only [opEv, hop, hf, hvs]; exact hc
            · simp [Cfg.wr]; omega
            · simp [Cfg.wr] at hwb; omega
          · cases hs
        · rename_i hm
          split at hs
          · rename_i b off rest has
            split at hs
            · rename_i hcond
              simp only [Bool.and_eq_true, decide_eq_true_eq] at hcond
              split at hs
              · rename_i v1 h1 hc
                simp only [Option.some.injEq, Prod.mk.injEq] at hs
                obtain ⟨rfl, rfl, rfl, rfl⟩ := hs
                rw [has] at hc
                obtain ⟨hhs, _⟩ := callM_ok hcall hc
                refine ⟨fun c hc' => List.mem_cons_of_mem _ hc', fun c hc' => ?_, fun b h => h, fun y hy _ => .inr (.inr ⟨hw, hic, hhs.len, ⟨h.length, [b], h.length⟩, rfl, ?_, fun c hcl hcy => ?_, fun c hc0 hcl hwb => ?_⟩)⟩
                · rcases List.mem_cons.1 hc' with rfl | h
                  · exact .inr hcond.1
                  · exact .inl h
                · simp only [opEv, hop, hf, hvs, has]; exact hc
                · have hne : c ≠ b := fun e => hcy (by rw [e]; exact hy b List.mem_cons_self)
                  simp [Cfg.wr, hne]; omega
                · simp [Cfg.wr] at hwb; have := hcond.2; omega
              · cases hs
            · cases hs
          · cases hs
        · rename_i hm
          split at hs
          · rename_i v1 h1 hc
            simp only [Option.some.injEq, Prod.mk.injEq] at hs
            obtain ⟨rfl, rfl, rfl, rfl⟩ := hs
            obtain ⟨hhs, _⟩ := callM_ok hcall hc
            refine ⟨fun b h => h, fun b h => .inl h, fun b h => h, fun y _ _ => .inr (.inr ⟨hw, hic, hhs.len, ⟨h.length, [], h.length⟩, rfl, ?_, fun b hb _ => ?_, fun b _ hb hwb => ?_⟩)⟩
            · simp only [opEv, hop, hf, hvs]; exact hc
            · simp [Cfg.wr]; omega
            · simp [Cfg.wr] at hwb; omega
          · cases hs
        · split at hs
          · rename_i hcond
            simp only [Bool.and_eq_true, List.all_eq_true, decide_eq_true_eq] at hcond
            split at hs
            · rename_i v1 h1 hc
              simp only [Option.some.injEq, Prod.mk.injEq] at hs
              obtain ⟨rfl, rfl, rfl, rfl⟩ := hs
              obtain ⟨hhs, _⟩ := callM_ok hcall hc
              refine ⟨fun c hc' => List.mem_append_right _ hc', fun c hc' => ?_, fun b h => h, fun y hy _ => .inr (.inr ⟨hw, hic, hhs.len, ⟨h.length, mapsIn h, h.length⟩, rfl, ?_, fun c hcl hcy => ?_, fun c hc0 hcl hwb => ?_⟩)⟩
              · rcases List.mem_append.1 hc' with h | h
                · exact .inr (hcond.2 c h).1
                · exact .inl h
              · simp only [opEv, hop, hf, hvs]; exact hc
              · have hne : ¬ c ∈ mapsIn h := fun e => hcy (hy c (List.mem_append_left _ e))
                simp [Cfg.wr, hne]; omega
              · simp [Cfg.wr] at hwb
                rcases hwb with hwb | hwb
                · omega
                · have := (hcond.2 c hwb).2; omega
            · cases hs
          · cases hs
      · cases hs
    · rename_i t p y hop
      have hic : isCall o = true := by simp [isCall, hop]
      split at hs
      · rename_i b off hp
        split at hs
        · rename_i hcond
          split at hs
          · rename_i v1 h1 hv
            simp only [Option.some.injEq, Prod.mk.injEq] at hs
            obtain ⟨rfl, rfl, rfl, rfl⟩ := hs
            refine ⟨fun c hc' => List.mem_cons_of_mem _ hc', fun c hc' => ?_, fun b h => h, fun y' hy _ => .inr (.inr ⟨hw, hic, by rw [opV_store_len hv]; exact Nat.le_refl _, ⟨h.length, [b], h.length⟩, rfl, ?_, fun c hcl hcy => ?_, fun c hc0 hcl hwb => ?_⟩)⟩
            · rcases List.mem_cons.1 hc' with rfl | h
              · exact .inr hcond
              · exact .inl h
            · rw [hop]; exact hv
            · have hne : c ≠ b := fun e => hcy (by rw [e]; exact hy b List.mem_cons_self)
              simp [Cfg.wr, hne]; omega
            · have hcb : c = b := by
                simp [Cfg.wr] at hwb
                rcases hwb with hwb | hwb
                · omega
                · exact hwb
              subst hcb
              obtain ⟨cs, hcs⟩ := opV_store_live hp hv
              exact ⟨t, p, y, off, cs, hop, hp, hcs⟩
          · cases hs
        · cases hs
      · cases hs
    · rename_i hnc hns
      have hic : isCall o = false := by
        unfold isCall
        split
        · rename_i f args tys hop; exact absurd hop (hnc f args tys)
        · rename_i t p y hop; exact absurd hop (hns t p y)
        · rfl
      split at hs
      · rename_i hh
        split at hs
        · rename_i v1 h1 hv
          simp only [Option.some.injEq, Prod.mk.injEq] at hs
          obtain ⟨rfl, rfl, rfl, rfl⟩ := hs
          refine ⟨fun b h => h, fun b h => .inl h, fun b h => ?_, fun y hy hld => .inr (.inl ⟨hw, hic, hh, hv, fun b hb hr => ?_⟩)⟩
          · split
            · exact List.mem_cons_of_mem _ h
            · exact h
          · refine hld b hb ?_
            rw [hr]
            exact List.mem_cons_self
        · cases hs
      · cases hs
structure Tr (P : Program) (md : FuncId → Nat) (call : Callf) (cfg : Cfg) (ops : Array Oper) (N : Nat) (x : List Nat) (F : Nat → List V) (H : Nat → Heap) (v : Nat → V) : Prop where
  xwr : ∀ b ∈ x, cfg.wr b = true
  step : ∀ i o, i < N → ops[i]? = some o → F (i + 1) = put (F i) o.dst (v i) ∧ Kind P md call cfg (H 0).length ops o (F i) (H i) (v i) (H (i + 1)) x
theorem upTo {p : Nat → Prop} {N : Nat} (hs : ∀ i, i < N → p i → p (i + 1)) {i : Nat} (hi : p i) : ∀ (j : Nat), i ≤ j → j ≤ N → p j := by
  intro j hij
  induction hij with
  | refl => intro _; exact hi
  | step _ ih => intro hj; exact hs _ (by omega) (ih (by omega))
theorem tr_of_run (hN : Named P) {md : FuncId → Nat} {call : Callf} (hcall : CallOK P call) {cfg : Cfg} {N : Nat} (hle : N ≤ ops.size) {fr fr1 : List V} {h h1 : Heap} {x : List Nat} {ld : List Nat}
    (hr : headRun P md call cfg h.length ops (ops.toList.take N) fr h [] [] = some (fr1, h1, x, ld)) (hx : ldOK ld x = true) :
    ∃ F H v, F 0 = fr ∧ H 0 = h ∧ F N = fr1 ∧ H N = h1 ∧ Tr P md call cfg ops N x F H v := by
  obtain ⟨F, H, X, D, v, e1, e2, e3, e4, e5, e6, e7, e8, hst⟩ := head_trace _ _ _ _ _ hr
  have hlen : (ops.toList.take N).length = N := by simp; omega
  rw [hlen] at e5 e6 e7 e8
  have hget : ∀ i o, i < N → ops[i]? = some o → (ops.toList.take N)[i]? = some o := fun i o hi ho => by rw [List.getElem?_take, if_pos hi]; simpa using ho
  have info := fun i o (hi : i < N) (ho : ops[i]? = some o) => head_info hN hcall (hst i o (hget i o hi ho)).1
  -- x and ld only grow
  have hXup : ∀ i, i ≤ N → ∀ b ∈ X i, b ∈ x := by
    intro i hi b hb
    rw [← e7]
    exact upTo (p := fun j => b ∈ X j) (N := N) (fun j hj hjb => (info j ops[j] hj (Array.getElem?_eq_getElem (by omega))).1 b hjb) hb N hi (Nat.le_refl _)
  have hDup : ∀ i, i ≤ N → ∀ b ∈ D i, b ∈ ld := by
    intro i hi b hb
    rw [← e8]
    exact upTo (p := fun j => b ∈ D j) (N := N) (fun j hj hjb => (info j ops[j] hj (Array.getElem?_eq_getElem (by omega))).2.2.1 b hjb) hb N hi (Nat.le_refl _)
  have hld : ∀ b ∈ x, ¬ b ∈ ld := by
    intro b hb
    have h1 := List.all_eq_true.1 hx b hb
    simpa using h1
  refine ⟨F, H, v, e1, e2, e5, e6, fun b hb => ?_, fun i o hi ho => ?_⟩
  · have key : ∀ i, i ≤ N → ∀ b ∈ X i, cfg.wr b = true := by
      intro i
      induction i with
      | zero => intro _ b hb; rw [e3] at hb; cases hb
      | succ i ih =>
        intro hi b hb
        rcases (info i ops[i] (by omega) (Array.getElem?_eq_getElem (by omega))).2.1 b hb with h1 | h1
        · exact ih (by omega) b h1
        · exact h1
    exact key N (Nat.le_refl _) b (by rw [e7]; exact hb)
  · rw [e2]
    exact ⟨(hst i o (hget i o hi ho)).2, (info i o hi ho).2.2.2 x (fun b hb => hXup (i + 1) (by omega) b hb) fun b hb hmem => hld b hb (hDup (i + 1) (by omega) b hmem)⟩
end
end Go.Ab
namespace Go.Ab
variable [Base]
theorem Bel.mono {s t : Nat} (hst : s ≤ t) {v : V} (h : Bel s v) : Bel t v := by
  induction h with
  | rf h => exact .rf h
  | ptr h => exact .ptr (by omega)
  | sl h => exact .sl (by omega)
  | mref h => exact .mref (by omega)
  | func _ _ ih ih' => exact .func ih ih'
  | agg _ ih => exact .agg ih
  | tup _ ih => exact .tup ih
  | iface _ ih => exact .iface ih
section
variable {P : Program} {md : FuncId → Nat} {call : Callf} {cfg : Cfg} {ops : Array Oper} {N : Nat} {x : List Nat} {F : Nat → List V} {H : Nat → Heap} {v : Nat → V}
theorem Tr.len1 (tr : Tr P md call cfg ops N x F H v) (hle : N ≤ ops.size) {i : Nat} (hi : i < N) : (H i).length ≤ (H (i + 1)).length := by
  obtain ⟨_, hk⟩ := tr.step i ops[i] hi (Array.getElem?_eq_getElem (by omega))
  rcases hk with ⟨_, _, h⟩ | ⟨_, _, h1, h2, _⟩ | ⟨_, _, h, _⟩
  · rw [h]; exact Nat.le_refl _
  · rcases opV_head_heap h1 h2 with h | ⟨n, h⟩ <;> rw [h] <;> simp
  · omega
theorem Tr.len (tr : Tr P md call cfg ops N x F H v) (hle : N ≤ ops.size) {i j : Nat} (hij : i ≤ j) (hj : j ≤ N) : (H i).length ≤ (H j).length :=
  upTo (p := fun j => (H i).length ≤ (H j).length) (N := N) (fun _ hk h => Nat.le_trans h (tr.len1 hle hk)) (Nat.le_refl _) j hij hj
theorem Tr.hs (hN : Named P) (hcall : CallOK P call) (tr : Tr P md call cfg ops N x F H v) (hle : N ≤ ops.size) {i : Nat} (hi : i < N) :
    (∀ b, b < (H i).length → ¬ b ∈ x → (H (i + 1))[b]? = (H i)[b]?) ∧ (isCall ops[i] = false → ∀ b, b < (H i).length → (H (i + 1))[b]? = (H i)[b]?) ∧ (∀ (D : Nat → Prop) (t : Nat), t ≤ (H i).length → Inv D (H i) t → Inv D (H (i + 1)) t) := by
  obtain ⟨_, hk⟩ := tr.step i ops[i] hi (Array.getElem?_eq_getElem (by omega))
  rcases hk with ⟨_, _, h⟩ | ⟨_, hic, h1, h2, _⟩ | ⟨_, hic, _, c, hthr, hev, hwr, _⟩
  · rw [h]; exact ⟨fun _ _ _ => rfl, fun _ _ _ => rfl, fun _ _ _ h => h⟩
  · have key : ∀ b, b < (H i).length → (H (i + 1))[b]? = (H i)[b]? := by
      intro b hb
      rcases opV_head_heap h1 h2 with h | ⟨n, h⟩
      · rw [h]
      · rw [h, List.getElem?_append_left hb]
    refine ⟨fun b hb _ => key b hb, fun _ b hb => key b hb, fun D t ht hinv b cs hb hD hc c hcc => ?_⟩
    rw [key b (by omega)] at hc
    exact hinv b cs hb hD hc c hcc
  · obtain ⟨_, hhs⟩ := opEv_ok hN hcall hev
    refine ⟨fun b hb hx => hhs.prot b hb (hwr b hb hx), (fun h => by rw [hic] at h; cases h), fun D t ht hinv => hhs.inv D t (by rw [hthr]; exact ht) ht hinv⟩
theorem Tr.same (hN : Named P) (hcall : CallOK P call) (tr : Tr P md call cfg ops N x F H v) (hle : N ≤ ops.size) {i j b : Nat} (hij : i ≤ j) (hj : j ≤ N) (hb : b < (H i).length) (hx : ¬ b ∈ x) : (H j)[b]? = (H i)[b]? := by
  have := upTo (p := fun j => b < (H j).length ∧ (H j)[b]? = (H i)[b]?) (N := N) (fun k hk h => ⟨Nat.lt_of_lt_of_le h.1 (tr.len1 hle hk), ((tr.hs hN hcall hle hk).1 b h.1 hx).trans h.2⟩) ⟨hb, rfl⟩ j hij hj
  exact this.2
theorem Tr.xsame (hN : Named P) (hcall : CallOK P call) (tr : Tr P md call cfg ops N x F H v) (hle : N ≤ ops.size) {i j b : Nat} (hij : i ≤ j) (hj : j ≤ N) (hb : b < (H i).length) (hnc : ∀ k (hk : k < ops.size), i ≤ k → k < j → isCall ops[k] = false) : (H j)[b]? = (H i)[b]? := by
  have := upTo (p := fun q => b < (H q).length ∧ (H q)[b]? = (H i)[b]? ∧ i ≤ q) (N := j) (fun k hk h => ⟨Nat.lt_of_lt_of_le h.1 (tr.len1 hle (by omega)), ((tr.hs hN hcall hle (by omega)).2.1 (hnc k (by omega) h.2.2 hk) b h.1).trans h.2.1, by omega⟩) ⟨hb, rfl, Nat.le_refl _⟩ j hij (Nat.le_refl _)
  exact this.2.1
def setAll (h : Heap) (src : Nat → Option (List V)) : List Nat → Heap
  | [] => h
  | b :: r => (setAll h src r).set b (src b)
theorem setAll_len (h : Heap) (src : Nat → Option (List V)) : ∀ x, (setAll h src x).length = h.length
  | [] => rfl
  | b :: r => by rw [setAll, List.length_set, setAll_len h src r]
theorem setAll_out {h : Heap} {src : Nat → Option (List V)} {b : Nat} : ∀ {x : List Nat}, ¬ b ∈ x → (setAll h src x)[b]? = h[b]?
  | [], _ => rfl
  | c :: r, hb => by
    rw [setAll, List.getElem?_set_ne (fun e => hb (by rw [e]; exact List.mem_cons_self)), setAll_out fun h => hb (List.mem_cons_of_mem _ h)]
theorem setAll_in {h : Heap} {src : Nat → Option (List V)} {b : Nat} (h1 : b < h.length) : ∀ {x : List Nat}, b ∈ x → (setAll h src x)[b]? = some (src b)
  | c :: r, hb => by
    rw [setAll]
    by_cases hcb : c = b
    · subst hcb
      rw [List.getElem?_set_self (by rw [setAll_len]; exact h1)]
    · rw [List.getElem?_set_ne hcb]
      rcases List.mem_cons.1 hb with h | h
      · exact absurd h.symm hcb
      · exact setAll_in h1 h
theorem set_keep {h : Heap} {b : Nat} {o : Option (List V)} (hb : h[b]? = some o) : h.set b o = h := by
  apply List.ext_getElem?
  intro c
  by_cases hcb : b = c
  · subst hcb
    rw [List.getElem?_set_self (List.getElem?_eq_some_iff.1 hb).1, hb]
  · rw [List.getElem?_set_ne hcb]
theorem opV_setAll {cfg : Cfg} {fr : List V} {h h' : Heap} {src : Nat → Option (List V)} {op : Op} {v : V} (hop : headOp P op = true) (hv : opV P cfg fr h op = some (v, h')) (hle : h.length ≤ h'.length) : ∀ {x : List Nat}, (∀ b ∈ x, readsOf fr op ≠ some b) → (∀ b ∈ x, h.length ≤ b → b < h'.length → h'[b]? = some (src b)) →
    opV P cfg fr (setAll h src x) op = some (v, setAll h' src x)
  | [], _, _ => hv
  | b :: r, hr, hx => by
    have ih := opV_setAll (src := src) hop hv hle (x := r) (fun c hc => hr c (List.mem_cons_of_mem _ hc)) fun c hc => hx c (List.mem_cons_of_mem _ hc)
    by_cases hb : b < h.length
    · exact opV_set _ hop (hr b List.mem_cons_self) (by rw [setAll_len]; exact hb) ih
    · rw [setAll, setAll, List.set_eq_of_length_le (by rw [setAll_len]; omega)]
      by_cases hb' : b < h'.length
      · rw [set_keep]
        · exact ih
        · by_cases hbr : b ∈ r
          · exact setAll_in hb' hbr
          · rw [setAll_out hbr]
            exact hx b List.mem_cons_self (by omega) hb'
      · rw [List.set_eq_of_length_le (by rw [setAll_len]; omega)]
        exact ih
def bi (H : Nat → Heap) (b : Nat) : Nat → Nat
  | 0 => 0
  | n + 1 => if b < (H (bi H b n)).length then bi H b n else n + 1
theorem bi_spec (H : Nat → Heap) (b : Nat) : ∀ n, (∀ j, j < bi H b n → ¬ b < (H j).length) ∧ bi H b n ≤ n ∧ ∀ j, j ≤ n → b < (H j).length → b < (H (bi H b n)).length
  | 0 => ⟨fun j hj => by simp [bi] at hj, Nat.le_refl _, fun j hj h => by
      obtain rfl : j = 0 := by omega
      exact h⟩
  | n + 1 => by
    obtain ⟨h1, h2, h3⟩ := bi_spec H b n
    unfold bi
    split
    · rename_i hb
      exact ⟨h1, by omega, fun _ _ _ => hb⟩
    · rename_i hb
      refine ⟨fun j hj hbj => hb (h3 j (by omega) hbj), Nat.le_refl _, fun j hj hbj => ?_⟩
      by_cases hjn : j = n + 1
      · rw [← hjn]; exact hbj
      · exact absurd (h3 j (by omega) hbj) hb
theorem bi_le {H : Nat → Heap} {b N i : Nat} (hb : b < (H i).length) : bi H b N ≤ i := by
  rcases Nat.lt_or_ge i (bi H b N) with h | h
  · exact absurd hb ((bi_spec H b N).1 i h)
  · exact h
theorem bi_lt {H : Nat → Heap} {b N i : Nat} (hi : i ≤ N) (hb : b < (H i).length) : b < (H (bi H b N)).length := (bi_spec H b N).2.2 i hi hb
theorem bi_at {H : Nat → Heap} {b N a : Nat} (hm : ∀ j, j ≤ a → (H j).length ≤ (H a).length) (ha : a + 1 ≤ N) (h1 : (H a).length ≤ b) (h2 : b < (H (a + 1)).length) : bi H b N = a + 1 := by
  have h3 := bi_le (N := N) h2
  have h4 := bi_lt ha h2
  rcases Nat.lt_or_ge (bi H b N) (a + 1) with h | h
  · have := hm (bi H b N) (by omega); omega
  · omega
def src (H : Nat → Heap) (N k b : Nat) : Option (List V) := (H (max k (bi H b N))).getD b none
def G (H : Nat → Heap) (N : Nat) (x : List Nat) (k : Nat) : Heap := setAll (H N) (src H N k) x
theorem G_length (k : Nat) : (G H N x k).length = (H N).length := setAll_len _ _ _
theorem G_other {k b : Nat} (hx : ¬ b ∈ x) : (G H N x k)[b]? = (H N)[b]? := setAll_out hx
theorem src_at (tr : Tr P md call cfg ops N x F H v) (hle : N ≤ ops.size) {k b i : Nat} (hk : k ≤ N) (hi : i ≤ N) (hb : b < (H i).length) : (H (max k (bi H b N)))[b]? = some (src H N k b) := by
  have h1 := bi_lt hi hb
  have h2 := (bi_spec H b N).2.1
  have h3 : b < (H (max k (bi H b N))).length := Nat.lt_of_lt_of_le h1 (tr.len hle (by omega) (by omega))
  unfold src
  rw [List.getD_eq_getElem?_getD, List.getElem?_eq_getElem h3]
  rfl
theorem G_x (tr : Tr P md call cfg ops N x F H v) (hle : N ≤ ops.size) {k b : Nat} (hk : k ≤ N) (hx : b ∈ x) (h1 : b < (H N).length) : (G H N x k)[b]? = (H (max k (bi H b N)))[b]? := by
  unfold G
  rw [setAll_in h1 hx, src_at tr hle hk (Nat.le_refl _) h1]
def Hx (H : Nat → Heap) (N : Nat) (x : List Nat) (k i : Nat) : Heap := setAll (H i) (src H N k) x
theorem G_take (hN : Named P) (hcall : CallOK P call) (tr : Tr P md call cfg ops N x F H v) (hle : N ≤ ops.size) {i k : Nat} (hi : i ≤ N) : (G H N x k).take (H i).length = Hx H N x k i := by
  have hl := tr.len hle hi (Nat.le_refl _)
  apply List.ext_getElem?
  intro b
  rw [List.getElem?_take]
  split
  · rename_i hb
    by_cases hx : b ∈ x
    · unfold G Hx
      rw [setAll_in (by omega) hx, setAll_in hb hx]
    · rw [G_other hx, tr.same hN hcall hle hi (Nat.le_refl _) hb hx]
      unfold Hx
      rw [setAll_out hx]
  · rename_i hb
    unfold Hx
    rw [List.getElem?_eq_none (by rw [setAll_len]; omega)]
theorem Hx_self (tr : Tr P md call cfg ops N x F H v) (hle : N ≤ ops.size) {i k : Nat} (hi : i ≤ N) (hk : k ≤ N) (hsame : ∀ b ∈ x, b < (H i).length → (H i)[b]? = (H (max k (bi H b N)))[b]?) : Hx H N x k i = H i := by
  unfold Hx
  apply List.ext_getElem?
  intro c
  by_cases hcx : c ∈ x
  · by_cases hc : c < (H i).length
    · rw [setAll_in hc hcx, hsame c hcx hc, src_at tr hle hk hi hc]
    · rw [List.getElem?_eq_none (by rw [setAll_len]; omega), List.getElem?_eq_none (by omega)]
  · rw [setAll_out hcx]
structure JH (ops : Array Oper) (N : Nat) (x : List Nat) (F : Nat → List V) (H : Nat → Heap) (v : Nat → V) (m0 : Mu) (w0 : World) (S : Nat → Bool) (a : Act) (w : World) (m : Mu) (k : Nat) : Prop where
  kle : k ≤ N
  kcall : ∀ i (hi : i < ops.size), i < N → isCall ops[i] = true → (S i = true ↔ i < k)
  tail : ∀ i, N ≤ i → S i = false
  born : ∀ b ∈ x, ∀ c, c < N → (H c).length ≤ b → b < (H (c + 1)).length → S c = false → (H (max k (c + 1)))[b]? = (H (c + 1))[b]?
  evo : Evo m0 (H 0) w0 m (G H N x k) w
  rel : Rel m (G H N x k) w
  fR : FR m (G H N x k) w (frS ops v S (F 0) N) a
  dom : ∀ b c, live (G H N x k) b → m b = some c → b < (H 0).length ∨ ∃ i, S i = true ∧ i < N ∧ (H i).length ≤ b ∧ b < (H (i + 1)).length
  bel : ∀ b c cs, (G H N x k)[b]? = some (some cs) → m b = some c → ∀ j, j ≤ N → b < (H j).length → ∀ e ∈ cs, Bel (H j).length e
  vb : ∀ i, S i = true → i < N → Bel (H (i + 1)).length (v i)
theorem F_frS (tr : Tr P md call cfg ops N x F H v) (hle : N ≤ ops.size) {i : Nat} (hi : i ≤ N) : F i = frS ops v (fun _ => true) (F 0) i := by
  induction i with
  | zero => rfl
  | succ i ih =>
    have ho : ops[i]? = some ops[i] := Array.getElem?_eq_getElem (by omega)
    rw [(tr.step i ops[i] (by omega) ho).1, ih (by omega)]
    simp [frS, ho]
theorem slot_eq (st : Static P ops N) (tr : Tr P md call cfg ops N x F H v) {S : Nat → Bool} (hcl : Closed ops S) {i : Nat} {o : Oper} (hi : i < N) (ho : ops[i]? = some o) (hS : S i = false) (hr : Ready S o) {s : Nat} (hs : s ∈ o.looksAt ops) :
    (frS ops v S (F 0) N)[s]? = (F i)[s]? := by
  rw [F_frS tr st.le (by omega : i ≤ N), ← frS_below (ops := ops) (v := v) (fr := F 0) N (by omega : i ≤ N)]
  refine frS_slot N fun j oj hj hoj => ?_
  by_cases hji : j < i
  · simp only [hji, decide_true]
    by_cases hSj : S j = true
    · exact .inl hSj
    · right
      rcases st.head j i oj o hji hi hoj ho with h | ⟨h, _⟩
      · exact absurd (ord_listed st.back hcl i o ho hr h) hSj
      · exact fun hd => (Oper.apart_spec h).1 s hd hs
  · simp only [hji, decide_false]
    by_cases hSj : S j = true
    · right
      have hji' : i < j := by
        rcases Nat.lt_or_ge i j with h | h
        · exact h
        · have : i = j := by omega
          subst this
          rw [hS] at hSj; cases hSj
      rcases st.head i j o oj hji' hj ho hoj with h | ⟨h, _⟩
      · have := ord_listed st.back hcl j oj hoj (hcl j oj hoj hSj) h
        rw [hS] at this; cases this
      · exact fun hd => (Oper.apart_spec h).2.2 s hd hs
    · exact .inl (by simpa using hSj)
theorem late_dst (st : Static P ops N) {S : Nat → Bool} (hcl : Closed ops S) {i : Nat} {o : Oper} (ho : ops[i]? = some o) (hS : S i = false) :
    ∀ j oj, i < j → j < N → ops[j]? = some oj → S j = true → ∀ s, o.dst = some s → oj.dst ≠ some s := by
  intro j oj hij hj hoj hSj s hs
  rcases st.head i j o oj hij hj ho hoj with h | ⟨h, _⟩
  · have := ord_listed st.back hcl j oj hoj (hcl j oj hoj hSj) h
    rw [hS] at this; cases this
  · exact (Oper.apart_spec h).2.1 s hs
theorem slot_bel (tr : Tr P md call cfg ops N x F H v) (hle : N ≤ ops.size) {s : Nat} (h0 : ∀ c, (F 0)[s]? = some c → Bel (H 0).length c) : ∀ (i : Nat), i ≤ N → (∀ j o, j < i → ops[j]? = some o → o.dst = some s → Bel (H (j + 1)).length (v j)) →
    ∀ c, (F i)[s]? = some c → Bel (H i).length c := by
  intro i
  induction i with
  | zero => intro _ _ c hc; exact h0 c hc
  | succ i ih =>
    intro hi hw c hc
    have ho : ops[i]? = some ops[i] := Array.getElem?_eq_getElem (by omega)
    rw [(tr.step i ops[i] (by omega) ho).1] at hc
    by_cases hd : ops[i].dst = some s
    · rw [hd] at hc
      simp only [put] at hc
      by_cases hlt : s < (F i).length
      · rw [List.getElem?_set_self hlt] at hc
        cases hc
        exact hw i ops[i] (by omega) ho hd
      · rw [List.set_eq_of_length_le (by omega), List.getElem?_eq_none (by omega)] at hc
        cases hc
    · rw [put_get hd] at hc
      exact (ih (by omega) (fun j o hj => hw j o (by omega)) c hc).mono (tr.len1 hle (by omega))
end
end Go.Ab
namespace Go.Ab
variable [Base]
section
variable {P : Program} {md : FuncId → Nat} {call : Callf} {cfg : Cfg} {ops : Array Oper} {N : Nat} {x : List Nat} {F : Nat → List V} {H : Nat → Heap} {v : Nat → V} {m0 : Mu} {w0 : World}
theorem addTo_self (S : Nat → Bool) (i : Nat) : addTo S i i = true := by simp [addTo]
theorem addTo_of {S : Nat → Bool} {i j : Nat} (h : S j = true) : addTo S i j = true := by simp only [addTo]; split <;> simp_all
theorem addTo_ne {S : Nat → Bool} {i j : Nat} (h : j ≠ i) : addTo S i j = S j := by simp [addTo, h]
theorem call_order (st : Static P ops N) {S : Nat → Bool} {k : Nat} (hk : ∀ i (hi : i < ops.size), i < N → isCall ops[i] = true → (S i = true ↔ i < k)) (hcl : Closed ops S) {i : Nat} {o : Oper} (hi : i < N) (ho : ops[i]? = some o) (hS : S i = false) (hr : Ready S o) (hc : isCall o = true) :
    k ≤ i ∧ (∀ j (hj : j < ops.size), k ≤ j → j < i → isCall ops[j] = false) ∧ ∀ j (hj : j < ops.size), j < N → isCall ops[j] = true → (addTo S i j = true ↔ j < i + 1) := by
  have hio : i < ops.size := (Array.getElem?_eq_some_iff.1 ho).1
  have hoe : ops[i] = o := (Array.getElem?_eq_some_iff.1 ho).2
  have hki : k ≤ i := by
    rcases Nat.lt_or_ge i k with h | h
    · have := (hk i hio hi (by rw [hoe]; exact hc)).2 h
      rw [hS] at this; cases this
    · exact h
  have hlow : ∀ j (hj : j < ops.size), j < i → isCall ops[j] = true → S j = true := by
    intro j hj hji hcj
    rcases st.head j i ops[j] o hji hi (Array.getElem?_eq_getElem hj) ho with h | ⟨_, h⟩
    · exact ord_listed st.back hcl i o ho hr h
    · exact absurd ⟨hcj, hc⟩ h
  refine ⟨hki, fun j hj hkj hji => ?_, fun j hj hjN hcj => ?_⟩
  · cases hcj : isCall ops[j] with
    | false => rfl
    | true =>
      have h1 := (hk j hj (by omega) hcj).1 (hlow j hj hji hcj)
      omega
  · by_cases hji : j = i
    · subst hji; simp [addTo_self]
    · rw [addTo_ne hji]
      constructor
      · intro hSj
        rcases Nat.lt_or_ge j i with h | h
        · omega
        · exfalso
          have hij : i < j := by omega
          rcases st.head i j o ops[j] hij hjN ho (Array.getElem?_eq_getElem hj) with h2 | ⟨_, h2⟩
          · have := ord_listed st.back hcl j _ (Array.getElem?_eq_getElem hj) (hcl j _ (Array.getElem?_eq_getElem hj) hSj) h2
            rw [hS] at this; cases this
          · exact h2 ⟨hc, hcj⟩
      · intro hlt
        exact hlow j hj (by omega) hcj
theorem call_other {S : Nat → Bool} {k : Nat} (hk : ∀ i (hi : i < ops.size), i < N → isCall ops[i] = true → (S i = true ↔ i < k)) {i : Nat} {o : Oper} (ho : ops[i]? = some o) (hc : isCall o = false) :
    ∀ j (hj : j < ops.size), j < N → isCall ops[j] = true → (addTo S i j = true ↔ j < k) := by
  intro j hj hjN hcj
  have hji : j ≠ i := by
    rintro rfl
    have hoe : ops[j] = o := (Array.getElem?_eq_some_iff.1 ho).2
    rw [hoe, hc] at hcj; cases hcj
  rw [addTo_ne hji]
  exact hk j hj hjN hcj
theorem jh_new (st : Static P ops N) (_hN : Named P) (_hcall : CallOK P call) (tr : Tr P md call cfg ops N x F H v) {S : Nat → Bool} {a : Act} {w : World} {m : Mu} {k : Nat} (J : JH ops N x F H v m0 w0 S a w m k) (hcl : Closed ops S)
    {i : Nat} {o : Oper} (hi : i < N) (ho : ops[i]? = some o) (hS : S i = false) {k' : Nat} (hk' : k' ≤ N) (hkk : k' = k ∨ k ≤ i ∧ k' = i + 1) (hborn : ∀ b ∈ x, ∀ c, c < N → (H c).length ≤ b → b < (H (c + 1)).length → addTo S i c = false → (H (max k' (c + 1)))[b]? = (H (c + 1))[b]?) (hkc : ∀ j (hj : j < ops.size), j < N → isCall ops[j] = true → (addTo S i j = true ↔ j < k'))
    {m' : Mu} {w' : World} {u : Value} (e : Evo (m.cut (G H N x k) (H i).length) ((G H N x k).take (H i).length) w m' ((G H N x k').take (H (i + 1)).length) w') (r' : Rel m' ((G H N x k').take (H (i + 1)).length) w')
    (hru : R m' ((G H N x k').take (H (i + 1)).length) w' (v i) u)
    (hbx : ∀ b c cs, b < (H i).length → b ∈ x → (G H N x k')[b]? = some (some cs) → m' b = some c → ∀ j, j ≤ N → b < (H j).length → ∀ e ∈ cs, Bel (H j).length e) :
    JH ops N x F H v m0 w0 (addTo S i) (a.put o.dst u) w' (m.glue m' (H (i + 1)).length) k' := by
  have hle := st.le
  have hnn := tr.len1 hle hi
  have hn0 := tr.len hle (Nat.zero_le i) (by omega : i ≤ N)
  have hn'N := tr.len hle (by omega : i + 1 ≤ N) (Nat.le_refl N)
  have hgl : ∀ q, (G H N x q).length = (H N).length := G_length
  have hsame : ∀ b, (H i).length ≤ b → (G H N x k')[b]? = (G H N x k)[b]? := by
    intro b hb
    rcases hkk with h | ⟨h1, h2⟩
    · rw [h]
    · by_cases hbx : b ∈ x
      · by_cases hbN : b < (H N).length
        · have hbi : i < bi H b N := by
            rcases Nat.lt_or_ge i (bi H b N) with h | h
            · exact h
            · have h3 := bi_lt (Nat.le_refl _) hbN
              have h4 := tr.len hle h (by omega : i ≤ N)
              omega
          rw [G_x tr hle hk' hbx hbN, G_x tr hle J.kle hbx hbN, h2, show max (i + 1) (bi H b N) = max k (bi H b N) by omega]
        · rw [List.getElem?_eq_none (by rw [hgl]; omega), List.getElem?_eq_none (by rw [hgl]; omega)]
      · rw [G_other hbx, G_other hbx]
  have hsame' : ∀ b, (H (i + 1)).length ≤ b → (G H N x k')[b]? = (G H N x k)[b]? := fun b hb => hsame b (by omega)
  have hnew : ∀ b, (H i).length ≤ b → b < (H (i + 1)).length → live (G H N x k') b → live (G H N x k) b ∧ m b = none := by
    intro b h1 h2 hl
    have hlk : live (G H N x k) b := by
      obtain ⟨cs, hc⟩ := hl
      exact ⟨cs, by rw [← hsame b h1]; exact hc⟩
    refine ⟨hlk, ?_⟩
    cases hm : m b with
    | none => rfl
    | some c =>
      exfalso
      rcases J.dom b c hlk hm with h | ⟨j, hSj, hjN, hj1, hj2⟩
      · omega
      · rcases Nat.lt_trichotomy j i with h | h | h
        · have := tr.len hle (by omega : j + 1 ≤ i) (by omega); omega
        · subst h; rw [hS] at hSj; cases hSj
        · have := tr.len hle (by omega : i + 1 ≤ j) (by omega); omega
  have hzz := e.zeq
  have ew := evw_glue (n := (H i).length) (n' := (H (i + 1)).length) J.rel (by rw [hgl]; omega) hnn (by rw [hgl, hgl]) hsame' hnew e
  have rg := rel_glue (n := (H i).length) (n' := (H (i + 1)).length) J.rel (by rw [hgl]; omega) hnn (by rw [hgl, hgl]) (by rw [hgl]; omega) hsame' hnew e r'
  have rglue : ∀ {y : V} {z : Value}, R m' ((G H N x k').take (H (i + 1)).length) w' y z → R (m.glue m' (H (i + 1)).length) (G H N x k') w' y z := fun h => h.glue (n := (H i).length) hzz hnn hsame' (by rw [hgl]; omega)
  have htk : ((G H N x k').take (H (i + 1)).length).length = (H (i + 1)).length := by rw [List.length_take, hgl]; omega
  have htk0 : ((G H N x k).take (H i).length).length = (H i).length := by rw [List.length_take, hgl]; omega
  have hkeep : ∀ b c, b < (H i).length → live (G H N x k') b → m' b = some c → live (G H N x k) b ∧ m b = some c := by
    intro b c hb hl hm
    obtain ⟨h1, h2⟩ := e.keep b (by rw [htk0]; exact hb) ((live_take' (by omega)).2 hl)
    refine ⟨(live_take h1).2, ?_⟩
    rw [h2] at hm
    simpa [Mu.cut, hb] using hm
  refine ⟨hk', hkc, fun j hj => ?_, hborn, ?_, rg, ?_, fun b c hl hm => ?_, fun b c cs hc hm j hj hbj f hf => ?_, fun j hSj hj => ?_⟩
  · rw [addTo_ne (by omega)]; exact J.tail j hj
  · have E := J.evo
    refine ⟨E.zeq, by rw [hgl]; have := E.len; rw [hgl] at this; exact this, fun b hb hl => ?_, fun b c hl hb => ?_, fun b hb hno => ?_, Nat.le_trans E.size e.size, fun b hb => Nat.le_trans (E.rs b hb) (e.rs b (Nat.lt_of_lt_of_le hb E.size)), e.os.trans E.os, e.tape.trans E.tape, e.output.trans E.output⟩
    · obtain ⟨h1, h2⟩ := e.keep b (by rw [htk0]; omega) ((live_take' (by omega)).2 hl)
      obtain ⟨h3, h4⟩ := E.keep b hb (live_take h1).2
      refine ⟨h3, ?_⟩
      simp only [Mu.glue, show b < (H (i + 1)).length by omega, if_true, h2]
      simpa [Mu.cut, show b < (H i).length by omega] using h4
    · rcases ew.own b c hl hb with ⟨y, hy, hyb⟩ | hge
      · exact E.own y c hy hyb
      · exact .inr (Nat.le_trans E.size hge)
    · refine (ew.frame b (Nat.lt_of_lt_of_le hb E.size) fun y hy hyb => ?_).trans (E.frame b hb hno)
      rcases E.own y b hy hyb with ⟨z, hz, hzb⟩ | hge
      · exact hno z hz hzb
      · omega
  · rw [frS_add ho hS N hi (late_dst st hcl ho hS)]
    have f1 : FR (m.glue m' (H (i + 1)).length) (G H N x k') w' (frS ops v S (F 0) N) a := ⟨J.fR.len, fun s y z hy hz => (J.fR.slot s y z hy hz).evw ew J.rel.lt, J.fR.defers.frame J.rel e.size ew.frame⟩
    exact f1.put (rglue hru) o.dst
  · by_cases hb1 : b < (H i).length
    · simp only [Mu.glue, show b < (H (i + 1)).length by omega, if_true] at hm
      obtain ⟨h1, h2⟩ := hkeep b c hb1 hl hm
      rcases J.dom b c h1 h2 with h | ⟨j, hSj, hjN, hj1, hj2⟩
      · exact .inl h
      · exact .inr ⟨j, addTo_of hSj, hjN, hj1, hj2⟩
    · by_cases hb2 : b < (H (i + 1)).length
      · exact .inr ⟨i, addTo_self S i, hi, by omega, hb2⟩
      · simp only [Mu.glue, hb2, if_false] at hm
        obtain ⟨cs, hc⟩ := hl
        rw [hsame' b (by omega)] at hc
        rcases J.dom b c ⟨cs, hc⟩ hm with h | ⟨j, hSj, hjN, hj1, hj2⟩
        · exact .inl h
        · exact .inr ⟨j, addTo_of hSj, hjN, hj1, hj2⟩
  · by_cases hb1 : b < (H i).length
    · simp only [Mu.glue, show b < (H (i + 1)).length by omega, if_true] at hm
      by_cases hx : b ∈ x
      · exact hbx b c cs hb1 hx hc hm j hj hbj f hf
      · obtain ⟨h1, h2⟩ := hkeep b c hb1 ⟨cs, hc⟩ hm
        rw [G_other hx, ← G_other (k := k) hx] at hc
        exact J.bel b c cs hc h2 j hj hbj f hf
    · by_cases hb2 : b < (H (i + 1)).length
      · simp only [Mu.glue, hb2, if_true] at hm
        have hbl := (r'.blk b cs c (by rw [List.getElem?_take, if_pos hb2]; exact hc) hm).bel hf
        rw [htk] at hbl
        have hij : i + 1 ≤ j := by
          rcases Nat.lt_or_ge i j with h | h
          · omega
          · have := tr.len hle h (by omega); omega
        exact hbl.mono (tr.len hle hij hj)
      · simp only [Mu.glue, hb2, if_false] at hm
        rw [hsame' b (by omega)] at hc
        exact J.bel b c cs hc hm j hj hbj f hf
  · by_cases hji : j = i
    · subst hji
      have := hru.bel
      rwa [htk] at this
    · rw [addTo_ne hji] at hSj
      exact J.vb j hSj hj
end
end Go.Ab
namespace Go.Ab
variable [Base]
def onlyAt (looks : List Nat) (fr : List V) : List V := fr.mapIdx fun s c => if looks.contains s then c else .any
theorem onlyAt_length (looks : List Nat) (fr : List V) : (onlyAt looks fr).length = fr.length := by simp [onlyAt]
theorem onlyAt_in {looks : List Nat} {fr : List V} {s : Nat} (hs : s ∈ looks) : (onlyAt looks fr)[s]? = fr[s]? := by
  simp only [onlyAt, List.getElem?_mapIdx]
  cases fr[s]? <;> simp [hs]
theorem onlyAt_out {looks : List Nat} {fr : List V} {s : Nat} (hs : ¬ s ∈ looks) {c : V} (hc : (onlyAt looks fr)[s]? = some c) : c = .any := by
  simp only [onlyAt, List.getElem?_mapIdx] at hc
  cases h : fr[s]? with
  | none => simp [h] at hc
  | some d => simp [h, hs] at hc; exact hc.symm
theorem wantd_congr {ops : Array Oper} {o : Oper} {fr fr' : List V} (h : ∀ s ∈ o.looksAt ops, fr[s]? = fr'[s]?) : wantd ops fr o = wantd ops fr' o := by
  unfold wantd
  cases hg : o.guard with
  | none => rfl
  | some g =>
    obtain ⟨j, want⟩ := g
    simp only
    cases hp : ops[j]? with
    | none => rfl
    | some p =>
      simp only
      cases hd : p.dst with
      | none => rfl
      | some d =>
        simp only
        rw [h d (by simp [Oper.looksAt, hg, hp, hd])]
theorem ev_congr {ops : Array Oper} {o : Oper} {fr fr' : List V} (h : ∀ s ∈ o.looksAt ops, fr[s]? = fr'[s]?) : ∀ p ∈ o.op.operands.toList, ev fr p = ev fr' p := by
  intro p hp
  cases p with
  | tmp t =>
    simp only [ev]
    refine h t ?_
    simp only [Oper.looksAt, List.mem_append, List.mem_filterMap]
    exact .inl ⟨.tmp t, hp, rfl⟩
  | const v => rfl
  | global g => rfl
  | func f => rfl
theorem opEv_nocall {P : Program} {md : FuncId → Nat} {call : Callf} {c : Cfg} {fr : List V} {h : Heap} {o : Oper} (hc : isCall o = false) : opEv P md call c fr h o.op = opV P c fr h o.op := by
  unfold isCall at hc
  unfold opEv
  split at hc
  · cases hc
  · cases hc
  · rename_i hn _
    split
    · rename_i f args tys hop; exact absurd hop (hn f args tys)
    · rfl
theorem ofVal_ptr {v : Value} {b off : Nat} : ¬ ofVal v = some (.ptr b off) := by
  intro h
  unfold ofVal at h
  split at h
  · rename_i cs
    cases hc : cs.toList.mapM ofLeaf <;> rw [hc] at h <;> simp at h
  · split at h <;> cases h
  · unfold ofLeaf at h
    split at h <;> cases h
section
variable {P : Program} {md : FuncId → Nat} {call : Callf} {cfg : Cfg} {ops : Array Oper} {N : Nat} {x : List Nat} {F : Nat → List V} {H : Nat → Heap} {v : Nat → V} {m0 : Mu} {w0 : World}
theorem jh_step (st : Static P ops N) (hN : Named P) (hcall : CallOK P call) (tr : Tr P md call cfg ops N x F H v) (hF0 : ∀ (s : Nat) (c : V), (F 0)[s]? = some c → Bel (H 0).length c) {S : Nat → Bool} {a : Act} {w : World} {m : Mu} {k : Nat}
    (J : JH ops N x F H v m0 w0 S a w m k) (hcl : Closed ops S) {i : Nat} {o : Oper} (hi : i < N) (ho : ops[i]? = some o) (hS : S i = false) (hr : Ready S o) (Q : Exit → Act → World → Prop) :
    wpOp P ops Q i (fun a' w' => ∃ m' k', JH ops N x F H v m0 w0 (addTo S i) a' w' m' k') a w := by
  have hle := st.le
  have hio : i < ops.size := (Array.getElem?_eq_some_iff.1 ho).1
  have hoe : ops[i] = o := (Array.getElem?_eq_some_iff.1 ho).2
  have hslot : ∀ s ∈ o.looksAt ops, (frS ops v S (F 0) N)[s]? = (F i)[s]? := fun s hs => slot_eq st tr hcl hi ho hS hr hs
  have hgl : ∀ q, (G H N x q).length = (H N).length := G_length
  have hiN := tr.len hle (by omega : i ≤ N) (Nat.le_refl N)
  have hn0 := tr.len hle (Nat.zero_le i) (by omega : i ≤ N)
  obtain ⟨hFs, hkind⟩ := tr.step i o hi ho
  have hwd : ∀ b, wantd ops (F i) o = some b → Region.wanted o (yielded ops a.tmps) = b := fun b hb => wantd_ok J.fR (by rw [wantd_congr hslot]; exact hb)
  -- the slots that are looked at, cut to what was there
  have hbelslot : ∀ s ∈ o.looksAt ops, ∀ c, (F i)[s]? = some c → Bel (H i).length c := by
    intro s hs
    refine slot_bel tr hle (hF0 s) i (by omega) fun j oj hj hoj hd => ?_
    have hSj : S j = true := by
      rcases st.head j i oj o hj hi hoj ho with h | ⟨h, _⟩
      · exact ord_listed st.back hcl i o ho hr h
      · exact absurd hs ((Oper.apart_spec h).1 s hd)
    exact J.vb j hSj (by omega)
  have hrelcut : Rel (m.cut (G H N x k) (H i).length) ((G H N x k).take (H i).length) w := J.rel.cut (by rw [hgl]; exact hiN) fun b cs c hb hc hm e he => J.bel b c cs hc hm i (by omega) hb e he
  have hfrcut : FR (m.cut (G H N x k) (H i).length) ((G H N x k).take (H i).length) w (onlyAt (o.looksAt ops) (frS ops v S (F 0) N)) a := by
    refine ⟨by rw [onlyAt_length]; exact J.fR.len, fun s y z hy hz => ?_, J.fR.defers⟩
    by_cases hs : s ∈ o.looksAt ops
    · rw [onlyAt_in hs] at hy
      exact (J.fR.slot s y z hy hz).cut (by rw [hgl]; exact hiN) (hbelslot s hs y (by rw [← hslot s hs]; exact hy))
    · rw [onlyAt_out hs hy]; exact .any _
  have hcong : ∀ s ∈ o.looksAt ops, (F i)[s]? = (onlyAt (o.looksAt ops) (frS ops v S (F 0) N))[s]? := fun s hs => by rw [onlyAt_in hs, hslot s hs]
  -- calls in their one order
  -- a block of x, from where the calls below k have been carried out up to here
  have hxs : (∀ j (hj : j < ops.size), k ≤ j → j < i → isCall ops[j] = false) → k ≤ i → ∀ b, b < (H i).length → (H i)[b]? = (H (max k (bi H b N)))[b]? := by
    intro hno hki b hb
    have h1 := bi_le (N := N) hb
    have h2 := bi_lt (N := N) (by omega : i ≤ N) hb
    have h3 : b < (H (max k (bi H b N))).length := Nat.lt_of_lt_of_le h2 (tr.len hle (by omega) (by omega))
    exact tr.xsame hN hcall hle (by omega) (by omega) h3 fun q hq h4 h5 => hno q hq (by omega) h5
  have hbornk : ∀ b ∈ x, ∀ c, c < N → (H c).length ≤ b → b < (H (c + 1)).length → addTo S i c = false → (H (max k (c + 1)))[b]? = (H (c + 1))[b]? := by
    intro b hb c hc h1 h2 h3
    refine J.born b hb c hc h1 h2 ?_
    by_cases hci : c = i
    · rw [hci]; exact hS
    · rwa [addTo_ne hci] at h3
  -- and one call further, where it does not write a block that is to come
  have hborni : (∀ j (hj : j < ops.size), k ≤ j → j < i → isCall ops[j] = false) → k ≤ i → (∀ b ∈ x, ∀ c, c < i → (H c).length ≤ b → b < (H (c + 1)).length → S c = false → (H (i + 1))[b]? = (H i)[b]?) →
      ∀ b ∈ x, ∀ c, c < N → (H c).length ≤ b → b < (H (c + 1)).length → addTo S i c = false → (H (max (i + 1) (c + 1)))[b]? = (H (c + 1))[b]? := by
    intro hno hki hw b hb c hc h1 h2 h3
    by_cases hci : c = i
    · rw [hci, addTo_self] at h3; cases h3
    · rw [addTo_ne hci] at h3
      rcases Nat.lt_or_ge i c with h | h
      · rw [show max (i + 1) (c + 1) = c + 1 by omega]
      · have h4 := J.born b hb c hc h1 h2 h3
        have h5 : b < (H (max k (c + 1))).length := Nat.lt_of_lt_of_le h2 (tr.len hle (by omega) (by have := J.kle; omega))
        rw [show max (i + 1) (c + 1) = i + 1 by omega, hw b hb c (by omega) h1 h2 h3, ← h4]
        exact tr.xsame hN hcall hle (by omega) (by omega) h5 fun q hq h6 h7 => hno q hq (by omega) h7
  unfold wpOp
  rw [ho]
  simp only
  rcases hkind with ⟨hw, hv, hH⟩ | ⟨hw, hic, hh, hop, hrd⟩ | ⟨hw, hic, hlen, c, hthr, hev, hwr, hst⟩
  · -- it is not carried out
    rw [hwd false hw]
    simp only [Bool.false_eq_true, if_false]
    have fin : ∀ k', k' ≤ N → (∀ b ∈ x, ∀ c, c < N → (H c).length ≤ b → b < (H (c + 1)).length → addTo S i c = false → (H (max k' (c + 1)))[b]? = (H (c + 1))[b]?) → G H N x k' = G H N x k → (∀ j (hj : j < ops.size), j < N → isCall ops[j] = true → (addTo S i j = true ↔ j < k')) → JH ops N x F H v m0 w0 (addTo S i) (a.put o.dst undef) w m k' := by
      intro k' hk' hb' hG hkc
      refine ⟨hk', hkc, fun j hj => ?_, hb', by rw [hG]; exact J.evo, by rw [hG]; exact J.rel, ?_, fun b c hl hm => ?_, fun b c cs hc => ?_, fun j hSj hj => ?_⟩
      · rw [addTo_ne (by omega)]; exact J.tail j hj
      · rw [frS_add ho hS N hi (late_dst st hcl ho hS), hv, hG]
        exact J.fR.put .no o.dst
      · rw [hG] at hl
        rcases J.dom b c hl hm with h | ⟨j, hSj, h⟩
        · exact .inl h
        · exact .inr ⟨j, addTo_of hSj, h⟩
      · rw [hG] at hc
        exact J.bel b c cs hc
      · by_cases hji : j = i
        · subst hji; rw [hv]; exact .rf rfl
        · rw [addTo_ne hji] at hSj; exact J.vb j hSj hj
    cases hic : isCall o with
    | false => exact ⟨m, k, fin k J.kle hbornk rfl (call_other J.kcall ho hic)⟩
    | true =>
      obtain ⟨hki, hno, hkc⟩ := call_order st J.kcall hcl hi ho hS hr hic
      refine ⟨m, i + 1, fin (i + 1) (by omega) (hborni hno hki fun b _ c _ _ _ _ => by rw [hH]) ?_ hkc⟩
      refine List.ext_getElem? fun b => ?_
      by_cases hbx : b ∈ x
      · by_cases hbN : b < (H N).length
        · rw [G_x tr hle (by omega) hbx hbN, G_x tr hle J.kle hbx hbN]
          rcases Nat.lt_or_ge i (bi H b N) with h | h
          · rw [show max (i + 1) (bi H b N) = max k (bi H b N) by omega]
          · have h1 := bi_lt (Nat.le_refl _) hbN
            have h2 : b < (H i).length := Nat.lt_of_lt_of_le h1 (tr.len hle h (by omega))
            rw [show max (i + 1) (bi H b N) = i + 1 by omega, hH, hxs hno hki b h2]
        · rw [List.getElem?_eq_none (by rw [hgl]; omega), List.getElem?_eq_none (by rw [hgl]; omega)]
      · rw [G_other hbx, G_other hbx]
  · -- it reads, computes or makes memory
    rw [hwd true hw]
    simp only [if_true]
    have hgt := G_take (k := k) hN hcall tr hle (by omega : i ≤ N)
    have hgt' := G_take (k := k) hN hcall tr hle (by omega : i + 1 ≤ N)
    have hop2 : opV P cfg (F i) (Hx H N x k i) o.op = some (v i, Hx H N x k (i + 1)) := by
      unfold Hx
      refine opV_setAll hh hop (tr.len1 hle hi) hrd fun b hb h1 h2 => ?_
      have h3 := bi_at (N := N) (fun j hj => tr.len hle hj (by omega)) (by omega) h1 h2
      rw [← J.born b hb i hi h1 h2 hS, ← h3]
      exact src_at tr hle J.kle (by omega) h2
    have hev : opEv P md call cfg (onlyAt (o.looksAt ops) (frS ops v S (F 0) N)) ((G H N x k).take (H i).length) o.op = some (v i, (G H N x k).take (H (i + 1)).length) := by
      rw [← opEv_congr (ev_congr hcong), opEv_nocall hic, hgt, hgt']
      exact hop2
    refine .inl ((opEv_ok hN hcall hev).1 _ w a hrelcut hfrcut _ Q fun u w' ⟨m', e, r', hru⟩ => ⟨_, k, jh_new st hN hcall tr J hcl hi ho hS J.kle (.inl rfl) hbornk (call_other J.kcall ho hic) e r' hru ?_⟩)
    intro b cc cs hb hx hc hm j hj hbj f hf
    have htk0 : ((G H N x k).take (H i).length).length = (H i).length := by rw [List.length_take, hgl]; omega
    have hnn := tr.len1 hle hi
    obtain ⟨_, h2⟩ := e.keep b (by rw [htk0]; exact hb) ((live_take' (by omega)).2 ⟨cs, hc⟩)
    rw [h2] at hm
    exact J.bel b cc cs hc (by simpa [Mu.cut, hb] using hm) j hj hbj f hf
  · -- it is a call
    rw [hwd true hw]
    simp only [if_true]
    obtain ⟨hki, hno, hkc⟩ := call_order st J.kcall hcl hi ho hS hr hic
    have hgt := G_take (k := k) hN hcall tr hle (by omega : i ≤ N)
    rw [Hx_self tr hle (by omega) J.kle fun b _ hb => hxs hno hki b hb] at hgt
    have hgt' := G_take (k := i + 1) hN hcall tr hle (by omega : i + 1 ≤ N)
    rw [Hx_self tr hle (by omega) (by omega) fun b _ hb => by rw [show max (i + 1) (bi H b N) = i + 1 by have := bi_le (N := N) hb; omega]] at hgt'
    have hev2 : opEv P md call c (onlyAt (o.looksAt ops) (frS ops v S (F 0) N)) ((G H N x k).take (H i).length) o.op = some (v i, (G H N x (i + 1)).take (H (i + 1)).length) := by
      rw [← opEv_congr (ev_congr hcong), hgt, hgt']
      exact hev
    -- it writes no block that is to come
    have hnw : ∀ b ∈ x, ∀ q, q < i → (H q).length ≤ b → b < (H (q + 1)).length → S q = false → (H (i + 1))[b]? = (H i)[b]? := by
      intro b hbx q hq h1 h2 h3
      have hbi : b < (H i).length := Nat.lt_of_lt_of_le h2 (tr.len hle (by omega) (by omega))
      cases hcw : c.wr b with
      | false => exact (opEv_ok hN hcall hev).2.prot b hbi hcw
      | true =>
        exfalso
        have h0q := tr.len hle (Nat.zero_le q) (by omega)
        obtain ⟨t, p, y, off, cs, hop, hp, hcs⟩ := hst b (by omega) hbi hcw
        cases p with
        | tmp s =>
          have hp' : (F i)[s]? = some (.ptr b off) := hp
          have hs : s ∈ o.looksAt ops := by
            simp only [Oper.looksAt, List.mem_append, List.mem_filterMap]
            exact .inl ⟨.tmp s, by simp [hop, Op.operands], rfl⟩
          have hg := hslot s hs
          rw [hp'] at hg
          have hlt : s < a.tmps.size := by rw [← J.fR.len]; exact (List.getElem?_eq_some_iff.1 hg).1
          have hR := J.fR.slot s _ _ hg (Array.getElem?_eq_getElem hlt)
          have hlive : live (G H N x k) b := by
            have h5 : ((G H N x k).take (H i).length)[b]? = some (some cs) := by rw [hgt]; exact live_of_blockOf hcs
            rw [List.getElem?_take, if_pos hbi] at h5
            exact ⟨cs, h5⟩
          generalize a.tmps[s] = z at hR
          cases hR with
          | ptr hlt hv =>
            obtain ⟨d, hd, _⟩ := hv hlive
            rcases J.dom b d hlive hd with h6 | ⟨q', hq1, hq2, hq3, hq4⟩
            · omega
            · have : q' = q := by
                rcases Nat.lt_trichotomy q' q with h | h | h
                · have := tr.len hle (by omega : q' + 1 ≤ q) (by omega); omega
                · exact h
                · have := tr.len hle (by omega : q + 1 ≤ q') (by omega); omega
              rw [this, h3] at hq1
              cases hq1
        | const v => exact absurd hp (by simp only [ev]; exact ofVal_ptr)
        | global g => simp [ev] at hp
        | func f => simp [ev] at hp
    refine .inl ((opEv_ok hN hcall hev2).1 _ w a hrelcut hfrcut _ Q fun u w' ⟨m', e, r', hru⟩ => ⟨_, i + 1, jh_new st hN hcall tr J hcl hi ho hS (by omega) (.inr ⟨hki, rfl⟩) (hborni hno hki hnw) hkc e r' hru ?_⟩)
    intro b cc cs hb hx hc hm j hj hbj f hf
    have htk0 : ((G H N x k).take (H i).length).length = (H i).length := by rw [List.length_take, hgl]; omega
    have hbN : b < (H N).length := by omega
    have hi1N := tr.len hle (by omega : i + 1 ≤ N) (Nat.le_refl N)
    have hc2 : (H (i + 1))[b]? = some (some cs) := by
      rw [G_x tr hle (by omega) hx hbN, show max (i + 1) (bi H b N) = i + 1 by have := bi_le (N := N) hb; omega] at hc
      exact hc
    rcases Nat.lt_or_ge i j with hij | hij
    · have htk : ((G H N x (i + 1)).take (H (i + 1)).length).length = (H (i + 1)).length := by rw [List.length_take, hgl]; omega
      have hbl := (r'.blk b cs cc (by rw [List.getElem?_take, if_pos (by omega)]; exact hc) hm).bel hf
      rw [htk] at hbl
      exact hbl.mono (tr.len hle hij hj)
    · have hjl := tr.len hle hij (by omega)
      have hinv : Inv (fun q => ∃ d, m q = some d) (H i) (H j).length := by
        rintro q cs' hq ⟨d, hd⟩ hcq g hg
        have hqi : q < (H i).length := by omega
        have hqc : (G H N x k)[q]? = some (some cs') := by
          have h3 : ((G H N x k).take (H i).length)[q]? = some (some cs') := by rw [hgt]; exact hcq
          rwa [List.getElem?_take, if_pos hqi] at h3
        exact J.bel q d cs' hqc hd j hj hq g hg
      have hinv2 := (tr.hs hN hcall hle hi).2.2 _ _ hjl hinv
      obtain ⟨_, h2⟩ := e.keep b (by rw [htk0]; exact hb) ((live_take' (by omega)).2 ⟨cs, hc⟩)
      rw [h2] at hm
      exact hinv2 b cs hbj ⟨cc, by simpa [Mu.cut, hb] using hm⟩ hc2 f hf
end
end Go.Ab
