/- Regions that draw their order: how the evaluator goes through one. -/
import Derived.Test.YtcedojbifnangaaAbDraw3
namespace Go.Ab

def isCall (o : Oper) : Bool :=
  match o.op with
  | .call { callee := .value _, .. } => true
  | .store .. => true
  | _ => false

def xOK : Option Nat → Nat → Bool
  | none, _ => true
  | some y, b => y == b

def ldOK (n : Nat) (ld : List Nat) : Option Nat → Bool
  | none => true
  | some b => !ld.contains b && decide (b < n)

/-- The first operations: in whatever order. What was written: at most one block, x, and that by calls alone; what was looked into: ld. -/
def headStep (P : Program) (md : FuncId → Nat) (call : Callf) (cfg : Cfg) (ops : Array Oper) (o : Oper) (fr : List V) (h : Heap) (x : Option Nat) (ld : List Nat) : Option (V × Heap × Option Nat × List Nat) :=
  match wantd ops fr o with
  | none => none
  | some false => some (.no, h, x, ld)
  | some true =>
    match o.op with
    | .call { callee := .value f, args, argTypes := _ } => match ev fr f, evAll fr args.toList with
      | some (.func (.func g) first captured), some vs =>
        match md g with
        | 0 => match callM md call ⟨h.length, none, h.length⟩ g ((first ++ vs) ++ captured) h with
          | some (v, h') => some (v, h', x, ld)
          | none => none
        | 3 => match callM md call ⟨h.length, none, h.length⟩ g ((first ++ vs) ++ captured) h with
          | some (v, h') => some (v, h', x, ld)
          | none => none
        | 1 => match (first ++ vs) ++ captured with
          | .ptr b _ :: _ =>
            if cfg.wr b && xOK x b then
              match callM md call ⟨h.length, some b, h.length⟩ g ((first ++ vs) ++ captured) h with
              | some (v, h') => some (v, h', some b, ld)
              | none => none
            else none
          | _ => none
        | 2 => match callM md call ⟨h.length, none, h.length⟩ g ((first ++ vs) ++ captured) h with
          | some (v, h') => some (v, h', x, ld)
          | none => none
        | _ => none
      | _, _ => none
    | .store t p y => match ev fr p with
      | some (.ptr b _) =>
        if cfg.wr b && xOK x b then
          match opV P ⟨h.length, some b, h.length⟩ fr h (.store t p y) with
          | some (v, h') => some (v, h', some b, ld)
          | none => none
        else none
      | _ => none
    | op => if headOp P op then
        match opV P cfg fr h op with
        | some (v, h') => some (v, h', x, match readsOf fr op with
          | some b => b :: ld
          | none => ld)
        | none => none
      else none

def headRun (P : Program) (md : FuncId → Nat) (call : Callf) (cfg : Cfg) (ops : Array Oper) : List Oper → List V → Heap → Option Nat → List Nat → Option (List V × Heap × Option Nat × List Nat)
  | [], fr, h, x, ld => some (fr, h, x, ld)
  | o :: r, fr, h, x, ld => match headStep P md call cfg ops o fr h x ld with
    | some (v, h', x', ld') => headRun P md call cfg ops r (put fr o.dst v) h' x' ld'
    | none => none

/-- It looks at no memory: it may be carried out as soon as it can. -/
def floats (P : Program) (o : Oper) : Bool :=
  match o.op with
  | .move _ | .extract .. | .unOp .. => true
  | .binOp _ t _ _ _ => match P.underlying t with
    | some (.int _) => true
    | _ => false
  | _ => false

def floatMask (P : Program) : Nat → List Oper → Nat
  | _, [] => 0
  | i, o :: r => (if floats P o then 2 ^ i else 0) ||| floatMask P (i + 1) r

/-- Where the operations begin that come behind all those before them (but for those that float). -/
def headLen (fm : Nat) (ms : List Nat) (n : Nat) : Nat := (List.range n).foldl (fun acc j => if (ms.getD j 0 ||| fm) % 2 ^ j == 2 ^ j - 1 then acc else j + 1) 0

def edgesBack (o : Oper) (j : Nat) : Bool := o.after.toList.all fun e => !Region.binds .any e || decide (e.on < j)

def pairsOK (ops : Array Oper) (mj : Nat) (oj : Oper) : Nat → List Oper → Bool
  | _, [] => true
  | i, oi :: r => (mj.testBit i || (oi.apart ops oj && !(isCall oi && isCall oj))) && pairsOK ops mj oj (i + 1) r

def headsOK (ops : Array Oper) (ms : List Nat) : List Oper → Nat → List Oper → Bool
  | _, _, [] => true
  | before, j, o :: r => pairsOK ops (ms.getD j 0) o 0 before && headsOK ops ms (before ++ [o]) (j + 1) r

def pairsT (P : Program) (ops : Array Oper) (mj : Nat) (oj : Oper) : Nat → List Oper → Bool
  | _, [] => true
  | i, oi :: r => (mj.testBit i || (floats P oi && oi.apart ops oj)) && pairsT P ops mj oj (i + 1) r

def tailsOK (P : Program) (ops : Array Oper) (ms : List Nat) : List Oper → Nat → List Oper → Bool
  | _, _, [] => true
  | before, j, o :: r => (ms.getD j 0 == 2 ^ j - 1 || pairsT P ops (ms.getD j 0) o 0 before) && tailsOK P ops ms (before ++ [o]) (j + 1) r

def noSel (o : Oper) : Bool :=
  match o.op with
  | .select .. => false
  | _ => true

def backOK : Nat → List Oper → Bool
  | _, [] => true
  | j, o :: r => edgesBack o j && backOK (j + 1) r

def okOps (P : Program) (ops : Array Oper) (ms : List Nat) (N : Nat) : Bool :=
  decide (N ≤ ops.size) && tailsOK P ops ms (ops.toList.take N) N (ops.toList.drop N) && backOK 0 ops.toList && headsOK ops ms [] 0 (ops.toList.take N) && ops.toList.all noSel

def drawR (P : Program) (md : FuncId → Nat) (call : Callf) (cfg : Cfg) (ops : Array Oper) (fr : List V) (h : Heap) : Option (List V × Heap) :=
  let ms := befs [] ops.toList
  let N := headLen (floatMask P 0 ops.toList) ms ops.size
  if okOps P ops ms N then
    match headRun P md call cfg ops (ops.toList.take N) fr h none [] with
    | some (fr1, h1, x, ld) =>
      if ldOK h.length ld x then runOps P md call cfg ops (ops.toList.drop N) fr1 h1 else none
    | none => none
  else none

section
variable {P : Program} {ops : Array Oper}

theorem back_of_ok : ∀ (l : List Oper) (j : Nat), backOK j l = true → ∀ i o, l[i]? = some o → ∀ e ∈ o.after.toList, Region.binds .any e = true → e.on < j + i
  | [], _, _, i, o, h => by simp at h
  | p :: l, j, hb, i, o, h => by
    simp only [backOK, Bool.and_eq_true] at hb
    cases i with
    | zero =>
      simp at h
      subst h
      intro e he hbind
      have := List.all_eq_true.1 hb.1 e he
      simpa [hbind] using this
    | succ i =>
      have := back_of_ok l (j + 1) hb.2 i o (by simpa using h)
      intro e he hbind
      have := this e he hbind
      omega

theorem pairs_of_ok {mj : Nat} {oj : Oper} : ∀ (l : List Oper) (i0 : Nat), pairsOK ops mj oj i0 l = true → ∀ i oi, l[i]? = some oi → mj.testBit (i0 + i) = true ∨ (oi.apart ops oj = true ∧ ¬ (isCall oi = true ∧ isCall oj = true))
  | [], _, _, i, oi, h => by simp at h
  | p :: l, i0, hb, i, oi, h => by
    simp only [pairsOK, Bool.and_eq_true, Bool.or_eq_true, Bool.not_eq_true'] at hb
    cases i with
    | zero =>
      simp at h
      subst h
      rcases hb.1 with h1 | ⟨h1, h2⟩
      · exact .inl h1
      · exact .inr ⟨h1, by simpa using h2⟩
    | succ i =>
      have := pairs_of_ok l (i0 + 1) hb.2 i oi (by simpa using h)
      rwa [show i0 + 1 + i = i0 + (i + 1) by omega] at this

theorem heads_of_ok {ms : List Nat} : ∀ (l before : List Oper) (j0 : Nat), j0 = before.length → headsOK ops ms before j0 l = true →
    ∀ i j oi oj, i < j → (before ++ l)[i]? = some oi → (before ++ l)[j]? = some oj → j0 ≤ j → (ms.getD j 0).testBit i = true ∨ (oi.apart ops oj = true ∧ ¬ (isCall oi = true ∧ isCall oj = true))
  | [], before, j0, hj0, _, i, j, oi, oj, hij, hi, hj, hge => by
    rw [List.getElem?_eq_none (by simp; omega)] at hj
    cases hj
  | o :: l, before, j0, hj0, hb, i, j, oi, oj, hij, hi, hj, hge => by
    simp only [headsOK, Bool.and_eq_true] at hb
    by_cases hje : j = j0
    · subst hje
      rw [hj0, List.getElem?_append_right (by omega), Nat.sub_self] at hj
      simp at hj
      subst hj
      rw [List.getElem?_append_left (by omega)] at hi
      have := pairs_of_ok before 0 hb.1 i oi hi
      simpa using this
    · exact heads_of_ok l (before ++ [o]) (j0 + 1) (by simp; omega) hb.2 i j oi oj hij (by simpa using hi) (by simpa using hj) (by omega)

theorem pairsT_of_ok {mj : Nat} {oj : Oper} : ∀ (l : List Oper) (i0 : Nat), pairsT P ops mj oj i0 l = true → ∀ i oi, l[i]? = some oi → mj.testBit (i0 + i) = true ∨ (floats P oi = true ∧ oi.apart ops oj = true)
  | [], _, _, i, oi, h => by simp at h
  | p :: l, i0, hb, i, oi, h => by
    simp only [pairsT, Bool.and_eq_true, Bool.or_eq_true] at hb
    cases i with
    | zero =>
      simp at h
      subst h
      exact hb.1
    | succ i =>
      have := pairsT_of_ok l (i0 + 1) hb.2 i oi (by simpa using h)
      rwa [show i0 + 1 + i = i0 + (i + 1) by omega] at this

theorem tails_of_ok {ms : List Nat} : ∀ (l before : List Oper) (j0 : Nat), j0 = before.length → tailsOK P ops ms before j0 l = true →
    ∀ i j oi oj, i < j → (before ++ l)[i]? = some oi → (before ++ l)[j]? = some oj → j0 ≤ j → (ms.getD j 0).testBit i = true ∨ (floats P oi = true ∧ oi.apart ops oj = true)
  | [], before, j0, hj0, _, i, j, oi, oj, hij, hi, hj, hge => by
    rw [List.getElem?_eq_none (by simp; omega)] at hj
    cases hj
  | o :: l, before, j0, hj0, hb, i, j, oi, oj, hij, hi, hj, hge => by
    simp only [tailsOK, Bool.and_eq_true, Bool.or_eq_true, beq_iff_eq] at hb
    by_cases hje : j = j0
    · subst hje
      rw [hj0, List.getElem?_append_right (by omega), Nat.sub_self] at hj
      simp at hj
      subst hj
      rw [List.getElem?_append_left (by omega)] at hi
      rcases hb.1 with h | h
      · left
        rw [h, Nat.testBit_two_pow_sub_one]
        simpa using hij
      · have := pairsT_of_ok before 0 h i oi hi
        simpa using this
    · exact tails_of_ok l (before ++ [o]) (j0 + 1) (by simp; omega) hb.2 i j oi oj hij (by simpa using hi) (by simpa using hj) (by omega)

/-- What the static look gives. -/
structure Static (P : Program) (ops : Array Oper) (N : Nat) : Prop where
  le : N ≤ ops.size
  back : Back ops
  tail : ∀ i j oi oj, N ≤ j → i < j → ops[i]? = some oi → ops[j]? = some oj → ord ops i j = true ∨ (floats P oi = true ∧ oi.apart ops oj = true)
  head : ∀ i j oi oj, i < j → j < N → ops[i]? = some oi → ops[j]? = some oj → ord ops i j = true ∨ (oi.apart ops oj = true ∧ ¬ (isCall oi = true ∧ isCall oj = true))
  nosel : ∀ (j : Nat) (o : Oper) cs b, ops[j]? = some o → o.op ≠ .select cs b

theorem static_of_ok {N : Nat} (h : okOps P ops (befs [] ops.toList) N = true) : Static P ops N := by
  simp only [okOps, Bool.and_eq_true, decide_eq_true_eq] at h
  obtain ⟨⟨⟨⟨h1, h2⟩, h3⟩, h4⟩, h5⟩ := h
  refine ⟨h1, fun i o ho e he hb => ?_, fun i j oi oj hN hij hi hj => ?_, fun i j oi oj hij hjN hi hj => ?_, fun j o cs b ho he => ?_⟩
  · have := back_of_ok ops.toList 0 h3 i o (by simpa using ho) e he hb
    omega
  · have := tails_of_ok (P := P) (ops.toList.drop N) (ops.toList.take N) N (by simp; omega) h2 i j oi oj hij (by rw [List.take_append_drop]; simpa using hi) (by rw [List.take_append_drop]; simpa using hj) hN
    exact this
  · have := heads_of_ok (ops.toList.take N) [] 0 rfl h4 i j oi oj hij (by rw [List.nil_append, List.getElem?_take, if_pos (by omega)]; simpa using hi) (by rw [List.nil_append, List.getElem?_take, if_pos hjN]; simpa using hj) (by omega)
    exact this
  · have hm : o ∈ ops.toList := List.mem_of_getElem? (by simpa using ho)
    have := List.all_eq_true.1 h5 o hm
    simp [noSel, he] at this

/-! ### The trace of the first operations -/

theorem head_trace {md : FuncId → Nat} {call : Callf} {cfg : Cfg} : ∀ (l : List Oper) (fr : List V) (h : Heap) (x : Option Nat) (ld : List Nat) {fr' : List V} {h' : Heap} {x' : Option Nat} {ld' : List Nat},
    headRun P md call cfg ops l fr h x ld = some (fr', h', x', ld') →
    ∃ (F : Nat → List V) (H : Nat → Heap) (X : Nat → Option Nat) (D : Nat → List Nat) (v : Nat → V), F 0 = fr ∧ H 0 = h ∧ X 0 = x ∧ D 0 = ld ∧ F l.length = fr' ∧ H l.length = h' ∧ X l.length = x' ∧ D l.length = ld' ∧
      ∀ i o, l[i]? = some o → headStep P md call cfg ops o (F i) (H i) (X i) (D i) = some (v i, H (i + 1), X (i + 1), D (i + 1)) ∧ F (i + 1) = put (F i) o.dst (v i)
  | [], fr, h, x, ld, fr', h', x', ld', hr => by
    simp only [headRun, Option.some.injEq, Prod.mk.injEq] at hr
    obtain ⟨rfl, rfl, rfl, rfl⟩ := hr
    exact ⟨fun _ => fr, fun _ => h, fun _ => x, fun _ => ld, fun _ => .no, rfl, rfl, rfl, rfl, rfl, rfl, rfl, rfl, fun i o hi => by simp at hi⟩
  | o :: l, fr, h, x, ld, fr', h', x', ld', hr => by
    simp only [headRun] at hr
    split at hr
    · rename_i v h1 x1 ld1 hs
      obtain ⟨F, H, X, D, vs, e1, e2, e3, e4, e5, e6, e7, e8, hst⟩ := head_trace l _ _ _ _ hr
      refine ⟨fun i => match i with | 0 => fr | i + 1 => F i, fun i => match i with | 0 => h | i + 1 => H i, fun i => match i with | 0 => x | i + 1 => X i, fun i => match i with | 0 => ld | i + 1 => D i,
        fun i => match i with | 0 => v | i + 1 => vs i, rfl, rfl, rfl, rfl, e5, e6, e7, e8, fun i oi hi => ?_⟩
      cases i with
      | zero =>
        simp at hi
        subst hi
        simp only [e1, e2, e3, e4]
        exact ⟨hs, trivial⟩
      | succ i => exact hst i oi (by simpa using hi)
    · cases hr

/-- The frame when the operations of S have been carried out. -/
def frS (ops : Array Oper) (v : Nat → V) (S : Nat → Bool) (fr : List V) : Nat → List V
  | 0 => fr
  | i + 1 => match ops[i]? with
    | some o => if S i then put (frS ops v S fr i) o.dst (v i) else frS ops v S fr i
    | none => frS ops v S fr i

theorem put_get {fr : List V} {d : Option Tmp} {v : V} {s : Nat} (hne : d ≠ some s) : (put fr d v)[s]? = fr[s]? := by
  cases d with
  | none => rfl
  | some d => simp only [put]; rw [List.getElem?_set_ne (fun e => hne (by rw [e]))]

theorem put_length (fr : List V) (d : Option Tmp) (v : V) : (put fr d v).length = fr.length := by cases d <;> simp [put]

theorem frS_length {v : Nat → V} {S : Nat → Bool} {fr : List V} (n : Nat) : (frS ops v S fr n).length = fr.length := by
  induction n with
  | zero => rfl
  | succ n ih =>
    simp only [frS]
    split
    · split
      · rw [put_length, ih]
      · exact ih
    · exact ih

theorem frS_slot {v : Nat → V} {S S' : Nat → Bool} {fr : List V} {s : Nat} (n : Nat) (h : ∀ j o, j < n → ops[j]? = some o → S j = S' j ∨ o.dst ≠ some s) : (frS ops v S fr n)[s]? = (frS ops v S' fr n)[s]? := by
  induction n with
  | zero => rfl
  | succ n ih =>
    have ih := ih fun j o hj ho => h j o (by omega) ho
    simp only [frS]
    split
    · rename_i o ho
      rcases h n o (by omega) ho with he | hne
      · rw [he]
        split
        · cases hd : o.dst with
          | none => exact ih
          | some d =>
            simp only [put]
            by_cases hds : d = s
            · subst hds
              rw [List.getElem?_set, List.getElem?_set, frS_length, frS_length]
              simp
            · rw [List.getElem?_set_ne hds, List.getElem?_set_ne hds]; exact ih
        · exact ih
      · split <;> split <;> simp only [put_get hne, ih]
    · exact ih

/-- As far as i, all of them. -/
theorem frS_below {v : Nat → V} {fr : List V} {i : Nat} (n : Nat) (hi : i ≤ n) : frS ops v (fun j => decide (j < i)) fr n = frS ops v (fun _ => true) fr i := by
  have step : ∀ k, k ≤ i → frS ops v (fun j => decide (j < i)) fr k = frS ops v (fun _ => true) fr k := by
    intro k hk
    induction k with
    | zero => rfl
    | succ k ih => simp only [frS, ih (by omega), show k < i by omega, decide_true]
  induction n with
  | zero =>
    obtain rfl : i = 0 := by omega
    rfl
  | succ n ih =>
    by_cases hin : i = n + 1
    · rw [hin] at step ⊢; exact step (n + 1) (Nat.le_refl _)
    · have h1 := ih (by omega)
      simp only [frS, show ¬ n < i by omega, decide_false, Bool.false_eq_true, if_false]
      split <;> exact h1

theorem put_comm {fr : List V} {d d' : Option Tmp} {u v : V} (hne : ∀ s, d = some s → d' ≠ some s) : put (put fr d u) d' v = put (put fr d' v) d u := by
  cases d with
  | none => rfl
  | some d => cases d' with
    | none => rfl
    | some d' =>
      have : d ≠ d' := fun e => hne d rfl (by rw [e])
      simp only [put]
      rw [List.set_comm _ _ this]

theorem frS_add {v : Nat → V} {S : Nat → Bool} {fr : List V} {i : Nat} {o : Oper} (ho : ops[i]? = some o) (hS : S i = false) (n : Nat) (hi : i < n)
    (hlate : ∀ j oj, i < j → j < n → ops[j]? = some oj → S j = true → ∀ s, o.dst = some s → oj.dst ≠ some s) : frS ops v (addTo S i) fr n = put (frS ops v S fr n) o.dst (v i) := by
  have low : ∀ k, k ≤ i → frS ops v (addTo S i) fr k = frS ops v S fr k := by
    intro k hk
    induction k with
    | zero => rfl
    | succ k ih =>
      have : addTo S i k = S k := by simp [addTo, show k ≠ i by omega]
      simp only [frS, ih (by omega), this]
  induction n with
  | zero => omega
  | succ n ih =>
    by_cases hin : n = i
    · subst hin
      have h1 : addTo S n n = true := by simp [addTo]
      simp only [frS, ho, h1, hS, if_true, Bool.false_eq_true, if_false, low n (Nat.le_refl _)]
    · have ih := ih (by omega) fun j oj h1 h2 h3 h4 => hlate j oj h1 (by omega) h3 h4
      have h1 : addTo S i n = S n := by simp [addTo, hin]
      simp only [frS, h1]
      split
      · rename_i on hon
        split
        · rename_i hSn
          rw [ih, put_comm (hlate n on (by omega) (by omega) hon hSn)]
        · exact ih
      · exact ih
end
end Go.Ab
