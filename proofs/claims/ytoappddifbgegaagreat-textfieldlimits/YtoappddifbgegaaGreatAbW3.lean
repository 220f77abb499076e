/- Several texts of this proof in one. -/
import Derived.Test.YtoappddifbgegaaGreatAbDraw9
import Derived.IntWalk
set_option linter.all false
namespace Go.Ab
open Go.RowKit (Below)
abbrev Prim := Cfg → List V → Heap → Option (V × Heap)
def callN (P : Program) (md : FuncId → Nat) (prim : FuncId → Option Prim) (n : Nat) : Nat → Callf
  | 0 => fun _ _ _ _ => none
  | d + 1 => fun cfg f args h => match prim f with
    | some p => p cfg args h
    | none => match P.funcs[f]? with
      | none => none
      | some fn => fnEv P md (callN P md prim n d) (drawR P md (callN P md prim n d)) n cfg fn args h
def PrimOK (P : Program) (f : FuncId) (p : Prim) : Prop := ∀ cfg args h r h', p cfg args h = some (r, h') → HS cfg h h' ∧ (∃ fn, P.funcs[f]? = some fn ∧ fn.body.isNone = false) ∧
  ∀ m w vs, Rel m h w → PW m h w args vs → Calls P f vs w fun e w' => ∃ v, e = .returned v ∧ Out m h w r h' v w'
section
variable {P : Program} {md : FuncId → Nat} {prim : FuncId → Option Prim} {n : Nat}
theorem callN_ok (hm : P.follows .mixedOrders = true) (hN : Named P) (hp : ∀ f p, prim f = some p → PrimOK P f p) : ∀ d, CallOK P (callN P md prim n d)
  | 0 => fun cfg f args h r h' hx => by simp [callN] at hx
  | d + 1 => fun cfg f args h r h' hx => by
    have ih := callN_ok hm hN hp d
    simp only [callN] at hx
    split at hx
    · rename_i p hpf
      exact hp f p hpf cfg args h r h' hx
    · split at hx
      · cases hx
      · rename_i fn hf
        exact fnEv_ok hN ih (fun _ => drawR_ok hm hN ih) hf hx
def noMu : Mu := ⟨fun _ => none, fun _ => False⟩
theorem rel_no (w : World) : Rel noMu [] w :=
  ⟨fun _ _ h _ => by obtain ⟨cs, hc⟩ := h; simp at hc, fun _ h => h.elim, fun _ _ _ h => by obtain ⟨cs, hc⟩ := h; simp at hc, fun _ _ _ h => by simp at h⟩
theorem law_calls (hm : P.follows .mixedOrders = true) (hN : Named P) (hp : ∀ f p, prim f = some p → PrimOK P f p) {d : Nat} {f : FuncId} {args : List V} {h' : Heap}
    (hx : callN P md prim n d ⟨0, [], 0⟩ f args [] = some (.bool true, h')) {w : World} {vs : Array Value} (hargs : PW noMu [] w args vs) :
    Calls P f vs w fun e w' => e = .returned (.bool true) ∧ Below w.heap.size w w' := by
  obtain ⟨_, _, hs⟩ := callN_ok (md := md) (n := n) hm hN hp d _ _ _ _ _ _ hx
  refine (hs noMu w vs (rel_no w) hargs).mono ?_
  rintro e w' ⟨v, rfl, m', ev, _, hr⟩
  cases hr
  exact ⟨rfl, ev.os, ev.tape, ev.output, ev.size, fun b hb => ev.frame b hb fun x hx => by obtain ⟨cs, hc⟩ := hx; simp at hc⟩
end
end Go.Ab
namespace Go.Ab
abbrev Kont := Ex → List V → Heap → Prop
def slot {α : Type} (l : List α) (t : Nat) : Option α := l[t]?
def setS (l : List V) (d : Nat) (v : V) : List V := l.set d v
@[simp] theorem slot_zero {α : Type} {a : α} {l : List α} : slot (a :: l) 0 = some a := rfl
@[simp] theorem slot_succ {α : Type} {a : α} {l : List α} {t : Nat} : slot (a :: l) (t + 1) = slot l t := by simp [slot]
@[simp] theorem slot_nil {α : Type} {t : Nat} : slot ([] : List α) t = none := rfl
@[simp] theorem setS_zero {a v : V} {l : List V} : setS (a :: l) 0 v = v :: l := rfl
@[simp] theorem setS_succ {a v : V} {l : List V} {t : Nat} : setS (a :: l) (t + 1) v = a :: setS l t v := rfl
class Hid (α : Type) where
  val : α
abbrev KontO := List V → Heap → Prop
section
variable (P : Program) (md : FuncId → Nat) (call : Callf) (cfg : Cfg) (n : Nat)
def wC [c : Hid Code] (fr : List V) (h : Heap) [Q : Hid Kont] : Prop := ∃ st, code P md call (drawR P md call) cfg n c.val fr h = some st ∧ Q.val st.1 st.2.1 st.2.2
def wO [ops : Hid (Array Oper)] [l : Hid (List Oper)] (fr : List V) (h : Heap) [Q : Hid KontO] : Prop := ∃ st, runOps P md call cfg ops.val l.val fr h = some st ∧ Q.val st.1 st.2
def wS [dst : Hid (Option Tmp)] [fr : Hid (List V)] (r : Option (V × Heap)) [ops : Hid (Array Oper)] [l : Hid (List Oper)] [Q : Hid KontO] : Prop :=
  ∃ x, r = some x ∧ @wO P md call cfg ops l (put fr.val dst.val x.1) x.2 Q
def wIf (b : Bool) [A : Hid Prop] [B : Hid Prop] : Prop := if b = true then A.val else B.val
def gdOf (ops : Array Oper) (fr : List V) (j : Nat) : Option V :=
  match ops[j]? with
  | some p => match p.dst with
    | some d => fr[d]?
    | none => none
  | none => none
def wG (g : Option V) [want : Hid Bool] [dst : Hid (Option Tmp)] [op : Hid Op] [ops : Hid (Array Oper)] [l : Hid (List Oper)] [fr : Hid (List V)] [h : Hid Heap] [Q : Hid KontO] : Prop :=
  match g with
  | some (.bool b) => @wIf (b == want.val) ⟨@wS P md call cfg dst fr (opEv P md call cfg fr.val h.val op.val) ops l Q⟩ ⟨@wO P md call cfg ops l (put fr.val dst.val .no) h.val Q⟩
  | some .no => @wO P md call cfg ops l (put fr.val dst.val .no) h.val Q
  | _ => False
def wB (c : Option V) [t : Hid Code] [e : Hid Code] [fr : Hid (List V)] [h : Hid Heap] [Q : Hid Kont] : Prop :=
  match c with
  | some (.bool b) => @wIf b ⟨@wC P md call cfg n t fr.val h.val Q⟩ ⟨@wC P md call cfg n e fr.val h.val Q⟩
  | _ => False
def kSeq [b : Hid Code] [Q : Hid Kont] (e : Ex) (fr : List V) (h : Heap) : Prop :=
  match e with
  | .normal => @wC P md call cfg n b fr h Q
  | e => Q.val e fr h
def kBlock [id : Hid Nat] [Q : Hid Kont] (e : Ex) (fr : List V) (h : Heap) : Prop :=
  match e with
  | .exit i => Q.val (if i = id.val then .normal else .exit i) fr h
  | e => Q.val e fr h
def Rnd [I : Hid (Nat → List V → Heap → Prop)] [m : Hid Nat] (fr : List V) (h : Heap) : Prop := ∃ m', m' < m.val ∧ I.val m' fr h
def kLoop [I : Hid (Nat → List V → Heap → Prop)] [m : Hid Nat] [Q : Hid Kont] (e : Ex) (fr : List V) (h : Heap) : Prop :=
  match e with
  | .normal => @Rnd I m fr h
  | e => Q.val e fr h
end
section
variable {P : Program} {md : FuncId → Nat} {call : Callf} {cfg : Cfg} {n : Nat}
@[simp] theorem wIf_true {A B : Prop} : @wIf true ⟨A⟩ ⟨B⟩ ↔ A := by simp [wIf]
@[simp] theorem wIf_false {A B : Prop} : @wIf false ⟨A⟩ ⟨B⟩ ↔ B := by simp [wIf]
theorem wIf_intro {b : Bool} {A B : Prop} (ha : b = true → A) (hb : b = false → B) : @wIf b ⟨A⟩ ⟨B⟩ := by cases b <;> simp_all
@[simp] theorem kSeq_normal {b : Code} {Q : Kont} {fr : List V} {h : Heap} : @kSeq P md call cfg n ⟨b⟩ ⟨Q⟩ .normal fr h ↔ @wC P md call cfg n ⟨b⟩ fr h ⟨Q⟩ := Iff.rfl
@[simp] theorem kSeq_exit {b : Code} {Q : Kont} {i : Nat} {fr : List V} {h : Heap} : @kSeq P md call cfg n ⟨b⟩ ⟨Q⟩ (.exit i) fr h ↔ Q (.exit i) fr h := Iff.rfl
@[simp] theorem kSeq_ret {b : Code} {Q : Kont} {fr : List V} {h : Heap} : @kSeq P md call cfg n ⟨b⟩ ⟨Q⟩ .ret fr h ↔ Q .ret fr h := Iff.rfl
@[simp] theorem kBlock_normal {id : Nat} {Q : Kont} {fr : List V} {h : Heap} : @kBlock ⟨id⟩ ⟨Q⟩ .normal fr h ↔ Q .normal fr h := Iff.rfl
@[simp] theorem kBlock_exit {id i : Nat} {Q : Kont} {fr : List V} {h : Heap} : @kBlock ⟨id⟩ ⟨Q⟩ (.exit i) fr h ↔ Q (if i = id then .normal else .exit i) fr h := Iff.rfl
@[simp] theorem kBlock_ret {id : Nat} {Q : Kont} {fr : List V} {h : Heap} : @kBlock ⟨id⟩ ⟨Q⟩ .ret fr h ↔ Q .ret fr h := Iff.rfl
@[simp] theorem kLoop_normal {I : Nat → List V → Heap → Prop} {m : Nat} {Q : Kont} {fr : List V} {h : Heap} : @kLoop ⟨I⟩ ⟨m⟩ ⟨Q⟩ .normal fr h ↔ @Rnd ⟨I⟩ ⟨m⟩ fr h := Iff.rfl
theorem Rnd_of {I : Nat → List V → Heap → Prop} {m : Nat} {fr : List V} {h : Heap} {m' : Nat} (h1 : m' < m) (h2 : I m' fr h) : @Rnd ⟨I⟩ ⟨m⟩ fr h := ⟨m', h1, h2⟩
@[simp] theorem kLoop_exit {I : Nat → List V → Heap → Prop} {m : Nat} {Q : Kont} {i : Nat} {fr : List V} {h : Heap} : @kLoop ⟨I⟩ ⟨m⟩ ⟨Q⟩ (.exit i) fr h ↔ Q (.exit i) fr h := Iff.rfl
@[simp] theorem kLoop_ret {I : Nat → List V → Heap → Prop} {m : Nat} {Q : Kont} {fr : List V} {h : Heap} : @kLoop ⟨I⟩ ⟨m⟩ ⟨Q⟩ .ret fr h ↔ Q .ret fr h := Iff.rfl
@[simp] theorem wC_skip {fr : List V} {h : Heap} {Q : Kont} : @wC P md call cfg n ⟨.skip⟩ fr h ⟨Q⟩ ↔ Q .normal fr h := by simp [wC, code]
@[simp] theorem wC_exit {id : Nat} {fr : List V} {h : Heap} {Q : Kont} : @wC P md call cfg n ⟨.exit id⟩ fr h ⟨Q⟩ ↔ Q (.exit id) fr h := by simp [wC, code]
@[simp] theorem wC_ret {fr : List V} {h : Heap} {Q : Kont} : @wC P md call cfg n ⟨.ret⟩ fr h ⟨Q⟩ ↔ Q .ret fr h := by simp [wC, code]
@[simp] theorem wC_seq {a b : Code} {fr : List V} {h : Heap} {Q : Kont} : @wC P md call cfg n ⟨.seq a b⟩ fr h ⟨Q⟩ ↔ @wC P md call cfg n ⟨a⟩ fr h ⟨@kSeq P md call cfg n ⟨b⟩ ⟨Q⟩⟩ := by
  unfold wC
  simp only [code]
  cases ha : code P md call (drawR P md call) cfg n a fr h with
  | none => simp
  | some st =>
    obtain ⟨e, fr', h'⟩ := st
    cases e <;> simp [kSeq, wC]
@[simp] theorem wC_block {id : Nat} {b : Code} {fr : List V} {h : Heap} {Q : Kont} : @wC P md call cfg n ⟨.block id b⟩ fr h ⟨Q⟩ ↔ @wC P md call cfg n ⟨b⟩ fr h ⟨@kBlock ⟨id⟩ ⟨Q⟩⟩ := by
  unfold wC
  simp only [code]
  cases ha : code P md call (drawR P md call) cfg n b fr h with
  | none => simp
  | some st =>
    obtain ⟨e, fr', h'⟩ := st
    cases e <;> simp [kBlock]
@[simp] theorem wC_cond {c : Operand} {t e : Code} {fr : List V} {h : Heap} {Q : Kont} : @wC P md call cfg n ⟨.cond c t e⟩ fr h ⟨Q⟩ ↔ @wB P md call cfg n (ev fr c) ⟨t⟩ ⟨e⟩ ⟨fr⟩ ⟨h⟩ ⟨Q⟩ := by
  unfold wC
  simp only [code, wB]
  split <;> rename_i hc
  · simp [wIf, wC, hc]
  · simp [wIf, wC, hc]
  · rename_i h1
    split
    · rename_i b hb
      cases b
      · exact absurd hb hc
      · exact absurd hb h1
    · simp
@[simp] theorem wB_bool {b : Bool} {t e : Code} {fr : List V} {h : Heap} {Q : Kont} : @wB P md call cfg n (some (.bool b)) ⟨t⟩ ⟨e⟩ ⟨fr⟩ ⟨h⟩ ⟨Q⟩ ↔ @wIf b ⟨@wC P md call cfg n ⟨t⟩ fr h ⟨Q⟩⟩ ⟨@wC P md call cfg n ⟨e⟩ fr h ⟨Q⟩⟩ := Iff.rfl
@[simp] theorem wC_region {id : Nat} {ops : Array Oper} {fr : List V} {h : Heap} {Q : Kont} : @wC P md call cfg n ⟨.region id ops false⟩ fr h ⟨Q⟩ ↔ @wO P md call cfg ⟨ops⟩ ⟨ops.toList⟩ fr h ⟨Q .normal⟩ := by
  unfold wC wO
  simp only [code]
  cases ha : runOps P md call cfg ops ops.toList fr h with
  | none => simp
  | some st => obtain ⟨fr', h'⟩ := st; simp
@[simp] theorem wO_list {ops : Array Oper} {l : List Oper} {fr : List V} {h : Heap} {Q : KontO} : @wO P md call cfg ⟨ops⟩ ⟨l.toArray.toList⟩ fr h ⟨Q⟩ ↔ @wO P md call cfg ⟨ops⟩ ⟨l⟩ fr h ⟨Q⟩ := Iff.rfl
@[simp] theorem wO_nil {ops : Array Oper} {fr : List V} {h : Heap} {Q : KontO} : @wO P md call cfg ⟨ops⟩ ⟨[]⟩ fr h ⟨Q⟩ ↔ Q fr h := by simp [wO, runOps]
@[simp] theorem wO_cons {ops : Array Oper} {dst : Option Tmp} {op : Op} {ty : TypeId} {pos : String} {after : Array Edge} {l : List Oper} {fr : List V} {h : Heap} {Q : KontO} :
    @wO P md call cfg ⟨ops⟩ ⟨{ dst := dst, op := op, type := ty, pos := pos, after := after, guard := none } :: l⟩ fr h ⟨Q⟩ ↔ @wS P md call cfg ⟨dst⟩ ⟨fr⟩ (opEv P md call cfg fr h op) ⟨ops⟩ ⟨l⟩ ⟨Q⟩ := by
  unfold wO wS
  simp only [runOps, stepOp, wantd]
  cases ha : opEv P md call cfg fr h op with
  | none => simp
  | some x => obtain ⟨v, h'⟩ := x; simp [wO]
@[simp] theorem wO_guard {ops : Array Oper} {dst : Option Tmp} {op : Op} {ty : TypeId} {pos : String} {after : Array Edge} {j : Nat} {want : Bool} {l : List Oper} {fr : List V} {h : Heap} {Q : KontO} :
    @wO P md call cfg ⟨ops⟩ ⟨{ dst := dst, op := op, type := ty, pos := pos, after := after, guard := some (j, want) } :: l⟩ fr h ⟨Q⟩ ↔ @wG P md call cfg (gdOf ops fr j) ⟨want⟩ ⟨dst⟩ ⟨op⟩ ⟨ops⟩ ⟨l⟩ ⟨fr⟩ ⟨h⟩ ⟨Q⟩ := by
  unfold wO wG gdOf
  simp only [runOps, stepOp, wantd]
  cases hj : ops[j]? with
  | none => simp
  | some p =>
    cases hd : p.dst with
    | none => simp [hd]
    | some d =>
      simp only [hd]
      cases hf : fr[d]? with
      | none => simp
      | some v =>
        cases v <;> simp only [reduceCtorEq, false_and, exists_false]
        · simp [wO]
        · rename_i b
          cases hbw : (b == want) <;> simp only [wIf, wS, wO, if_true, Bool.false_eq_true, if_false]
          cases ha : opEv P md call cfg fr h op with
          | none => simp
          | some x => obtain ⟨v, h'⟩ := x; simp
@[simp] theorem wG_bool {b want : Bool} {dst : Option Tmp} {op : Op} {ops : Array Oper} {l : List Oper} {fr : List V} {h : Heap} {Q : KontO} :
    @wG P md call cfg (some (.bool b)) ⟨want⟩ ⟨dst⟩ ⟨op⟩ ⟨ops⟩ ⟨l⟩ ⟨fr⟩ ⟨h⟩ ⟨Q⟩ ↔ @wIf (b == want) ⟨@wS P md call cfg ⟨dst⟩ ⟨fr⟩ (opEv P md call cfg fr h op) ⟨ops⟩ ⟨l⟩ ⟨Q⟩⟩ ⟨@wO P md call cfg ⟨ops⟩ ⟨l⟩ (put fr dst .no) h ⟨Q⟩⟩ := Iff.rfl
@[simp] theorem wG_no {want : Bool} {dst : Option Tmp} {op : Op} {ops : Array Oper} {l : List Oper} {fr : List V} {h : Heap} {Q : KontO} :
    @wG P md call cfg (some .no) ⟨want⟩ ⟨dst⟩ ⟨op⟩ ⟨ops⟩ ⟨l⟩ ⟨fr⟩ ⟨h⟩ ⟨Q⟩ ↔ @wO P md call cfg ⟨ops⟩ ⟨l⟩ (put fr dst .no) h ⟨Q⟩ := Iff.rfl
@[simp] theorem wS_some {dst : Option Tmp} {fr : List V} {v : V} {h : Heap} {ops : Array Oper} {l : List Oper} {Q : KontO} :
    @wS P md call cfg ⟨dst⟩ ⟨fr⟩ (some (v, h)) ⟨ops⟩ ⟨l⟩ ⟨Q⟩ ↔ @wO P md call cfg ⟨ops⟩ ⟨l⟩ (put fr dst v) h ⟨Q⟩ := by simp [wS]
@[simp] theorem put_none {fr : List V} {v : V} : put fr none v = fr := rfl
@[simp] theorem put_some {fr : List V} {d : Tmp} {v : V} : put fr (some d) v = setS fr d v := rfl
@[simp] theorem gdOf_mk {ops : Array Oper} {fr : List V} {j : Nat} : gdOf ops fr j = ((slot ops.toList j).bind (·.dst)).bind (slot fr ·) := by
  unfold gdOf
  simp only [slot, Array.getElem?_toList]
  cases h : ops[j]? with
  | none => simp
  | some p => cases hd : p.dst <;> simp [hd]
@[simp] theorem ev_tmp {fr : List V} {t : Tmp} : ev fr (.tmp t) = slot fr t := rfl
@[simp] theorem ev_func {fr : List V} {f : FuncId} : ev fr (.func f) = some (.func (.func f) [] []) := rfl
@[simp] theorem ev_int {fr : List V} {k : IntKind} {i : Int} : ev fr (.const (.int k i)) = some (.int k i) := rfl
@[simp] theorem ev_bool {fr : List V} {b : Bool} : ev fr (.const (.bool b)) = some (.bool b) := rfl
@[simp] theorem ev_str {fr : List V} {s : ByteArray} : ev fr (.const (.string s)) = some (.str s) := rfl
@[simp] theorem ev_nils {fr : List V} : ev fr (.const (.slice none 0 0)) = some .nils := rfl
@[simp] theorem ev_agg {fr : List V} {cs : Array Value} : ev fr (.const (.agg cs)) = (cs.toList.mapM ofLeaf).map .agg := rfl
@[simp] theorem evAll_nil {fr : List V} : evAll fr [] = some [] := rfl
@[simp] theorem evAll_cons {fr : List V} {x : Operand} {r : List Operand} : evAll fr (x :: r) = (ev fr x).bind fun v => (evAll fr r).map (v :: ·) := by
  simp only [evAll]
  cases ev fr x <;> simp
  cases evAll fr r <;> simp
@[simp] theorem opEv_move {fr : List V} {h : Heap} {x : Operand} : opEv P md call cfg fr h (.move x) = (ev fr x).map (·, h) := rfl
@[simp] theorem opEv_assign {fr : List V} {h : Heap} {x : Operand} : opEv P md call cfg fr h (.assign x) = (ev fr x).map (·, h) := rfl
def pickV (c a b : Option V) (h : Heap) : Option (V × Heap) :=
  match c with
  | some (.bool true) => a.map (·, h)
  | some (.bool false) => b.map (·, h)
  | _ => none
@[simp] theorem opEv_pick {fr : List V} {h : Heap} {c a b : Operand} : opEv P md call cfg fr h (.pick c a b) = pickV (ev fr c) (ev fr a) (ev fr b) h := rfl
@[simp] theorem pickV_true {a b : Option V} {h : Heap} : pickV (some (.bool true)) a b h = a.map (·, h) := rfl
@[simp] theorem pickV_false {a b : Option V} {h : Heap} : pickV (some (.bool false)) a b h = b.map (·, h) := rfl
@[simp] theorem pickV_and {x y : Bool} {h : Heap} : pickV (some (.bool x)) (some (.bool y)) (some (.bool false)) h = some (.bool (x && y), h) := by cases x <;> rfl
@[simp] theorem pickV_or {x y : Bool} {h : Heap} : pickV (some (.bool x)) (some (.bool true)) (some (.bool y)) h = some (.bool (x || y), h) := by cases x <;> rfl
@[simp] theorem opEv_alloc {fr : List V} {h : Heap} {t : TypeId} : opEv P md call cfg fr h (.alloc t) = (zeroOf P t).map fun z => (.ptr h.length 0, h ++ [some (vcells z)]) := by
  simp only [opEv, opV]; cases zeroOf P t <;> rfl
@[simp] theorem opEv_box {fr : List V} {h : Heap} {t : TypeId} {x : Operand} : opEv P md call cfg fr h (.box t x) = ((ev fr x).bind cellsOf).map fun cs => (.ptr h.length 0, h ++ [some cs]) := by
  simp only [opEv, opV]
  cases ev fr x with
  | none => rfl
  | some v => simp only [Option.bind_some]; cases cellsOf v <;> rfl
@[simp] theorem opEv_build {fr : List V} {h : Heap} {t : TypeId} {ps : Array (Nat × Operand)} : opEv P md call cfg fr h (.build t ps) = ((evParts fr ps.toList).bind (buildV P t)).map (·, h) := by
  simp only [opEv, opV]; cases evParts fr ps.toList <;> rfl
@[simp] theorem opEv_buildSlice {fr : List V} {h : Heap} {t : TypeId} {len : Nat} {ps : Array (Nat × Operand)} : opEv P md call cfg fr h (.buildSlice t len ps) = (partsInOrder fr 0 ps.toList).bind (buildSliceV P h t len) := by
  simp only [opEv, opV]; cases partsInOrder fr 0 ps.toList <;> rfl
@[simp] theorem opEv_load {fr : List V} {h : Heap} {t : TypeId} {a : Operand} : opEv P md call cfg fr h (.load t a) = ((ev fr a).bind (loadV P h t)).map (·, h) := by
  simp only [opEv, opV]; cases ev fr a <;> rfl
@[simp] theorem opEv_store {fr : List V} {h : Heap} {t : TypeId} {a x : Operand} : opEv P md call cfg fr h (.store t a x) = ((ev fr a).bind fun p => (ev fr x).bind fun v => storeV P cfg h t p v).map (.no, ·) := by
  simp only [opEv, opV]
  cases ev fr a with
  | none => rfl
  | some p => cases ev fr x with
    | none => rfl
    | some v => simp only [Option.bind_some]; cases storeV P cfg h t p v <;> rfl
@[simp] theorem opEv_nilCheck {fr : List V} {h : Heap} {x : Operand} : opEv P md call cfg fr h (.nilCheck x) = ((ev fr x).bind nilCheckV).map (·, h) := by
  simp only [opEv, opV]; cases ev fr x <;> rfl
@[simp] theorem opEv_binOp {fr : List V} {h : Heap} {op : BinOp} {t u : TypeId} {x y : Operand} : opEv P md call cfg fr h (.binOp op t x y u) = ((ev fr x).bind fun a => (ev fr y).bind fun b => binV P op t a b).map (·, h) := by
  simp only [opEv, opV]
  cases ev fr x with
  | none => rfl
  | some p => cases ev fr y with
    | none => rfl
    | some v => rfl
@[simp] theorem opEv_unOp {fr : List V} {h : Heap} {op : UnOp} {t : TypeId} {x : Operand} : opEv P md call cfg fr h (.unOp op t x) = ((ev fr x).bind (unV op)).map (·, h) := by
  simp only [opEv, opV]; cases ev fr x <;> rfl
@[simp] theorem opEv_convert {fr : List V} {h : Heap} {s d : TypeId} {x : Operand} : opEv P md call cfg fr h (.convert s d x) = (ev fr x).bind (convV P h s d) := by
  simp only [opEv, opV]; cases ev fr x <;> rfl
@[simp] theorem opEv_makeFunc {fr : List V} {h : Heap} {fn : Fn} {a c : Array Operand} : opEv P md call cfg fr h (.makeFunc fn a c) = (evAll fr a.toList).bind fun f => (evAll fr c.toList).map fun c => (.func fn f c, h) := by
  simp only [opEv, opV]
  cases evAll fr a.toList with
  | none => rfl
  | some p => cases evAll fr c.toList <;> rfl
@[simp] theorem opEv_makeSlice {fr : List V} {h : Heap} {t : TypeId} {l c : Operand} : opEv P md call cfg fr h (.makeSlice t l c) = (ev fr l).bind fun a => (ev fr c).bind fun b => makeSliceV P h t a b := by
  simp only [opEv, opV]
  cases ev fr l with
  | none => rfl
  | some p => cases ev fr c <;> rfl
@[simp] theorem opEv_slice {fr : List V} {h : Heap} {t : TypeId} {x : Operand} {lo hi : Option Operand} : opEv P md call cfg fr h (.slice t x lo hi none) = ((ev fr x).bind fun a => sliceV P h t a (lo.map (ev fr)) (hi.map (ev fr))).map (·, h) := by
  simp only [opEv, opV]; cases ev fr x <;> rfl
@[simp] theorem opEv_fieldAddr {fr : List V} {h : Heap} {s : TypeId} {x : Operand} {f : Nat} : opEv P md call cfg fr h (.fieldAddr s x f) = ((ev fr x).bind fun a => fieldAddrV P s a f).map (·, h) := by
  simp only [opEv, opV]; cases ev fr x <;> rfl
@[simp] theorem opEv_field {fr : List V} {h : Heap} {s : TypeId} {x : Operand} {f : Nat} : opEv P md call cfg fr h (.field s x f) = ((ev fr x).bind fun a => fieldV P s a f).map (·, h) := by
  simp only [opEv, opV]; cases ev fr x <;> rfl
@[simp] theorem opEv_indexAddr {fr : List V} {h : Heap} {t : TypeId} {x i : Operand} : opEv P md call cfg fr h (.indexAddr t x i) = ((ev fr x).bind fun a => (ev fr i).bind fun b => indexAddrV P t a b).map (·, h) := by
  simp only [opEv, opV]
  cases ev fr x with
  | none => rfl
  | some p => cases ev fr i <;> rfl
@[simp] theorem opEv_index {fr : List V} {h : Heap} {t : TypeId} {x i : Operand} : opEv P md call cfg fr h (.index t x i) = ((ev fr x).bind fun a => (ev fr i).bind fun b => indexV P t a b).map (·, h) := by
  simp only [opEv, opV]
  cases ev fr x with
  | none => rfl
  | some p => cases ev fr i <;> rfl
@[simp] theorem opEv_extract {fr : List V} {h : Heap} {x : Operand} {i : Nat} : opEv P md call cfg fr h (.extract x i) = ((ev fr x).bind fun a => extractV a i).map (·, h) := by
  simp only [opEv, opV]; cases ev fr x <;> rfl
def biV (P : Program) (cfg : Cfg) (h : Heap) (b : Builtin) (tys : List TypeId) (vs : List V) : Option (V × Heap) :=
  match b, tys, vs with
  | .len, [t], [x] => (lenV P t x).map (·, h)
  | .append, [t, u], [d, x] => appendV P cfg h t u d x
  | .min, _, vs => (minV vs).map (·, h)
  | .max, _, vs => (maxV vs).map (·, h)
  | .clear, [t], [x] => (clearV P cfg h t x).map (.tup [], ·)
  | _, _, _ => none
@[simp] theorem opEv_builtin {fr : List V} {h : Heap} {b : Builtin} {args : Array Operand} {tys : Array TypeId} : opEv P md call cfg fr h (.call { callee := .builtin b, args := args, argTypes := tys }) = (evAll fr args.toList).bind (biV P cfg h b tys.toList) := by
  simp only [opEv, opV]
  cases evAll fr args.toList with
  | none => rfl
  | some vs =>
    simp only [Option.bind_some, biV]
    generalize tys.toList = tl
    rcases tl with _ | ⟨t, _ | ⟨u, _ | ⟨_, _⟩⟩⟩ <;> rcases vs with _ | ⟨x, _ | ⟨y, _ | ⟨_, _⟩⟩⟩ <;> cases b <;> first | rfl | (simp only []; cases clearV P cfg h t x <;> rfl) | (simp only; cases clearV P cfg h t x <;> rfl)
@[simp] theorem biV_len {h : Heap} {t : TypeId} {x : V} : biV P cfg h .len [t] [x] = (lenV P t x).map (·, h) := rfl
@[simp] theorem biV_append {h : Heap} {t u : TypeId} {d x : V} : biV P cfg h .append [t, u] [d, x] = appendV P cfg h t u d x := rfl
@[simp] theorem biV_min {h : Heap} {ts : List TypeId} {vs : List V} : biV P cfg h .min ts vs = (minV vs).map (·, h) := by unfold biV; split <;> simp_all
@[simp] theorem biV_max {h : Heap} {ts : List TypeId} {vs : List V} : biV P cfg h .max ts vs = (maxV vs).map (·, h) := by unfold biV; split <;> simp_all
@[simp] theorem biV_clear {h : Heap} {t : TypeId} {x : V} : biV P cfg h .clear [t] [x] = (clearV P cfg h t x).map (.tup [], ·) := rfl
def callOf (md : FuncId → Nat) (call : Callf) (cfg : Cfg) (h : Heap) (f : Option V) (vs : Option (List V)) : Option (V × Heap) :=
  match f, vs with
  | some (.func (.func g) first captured), some vs => callM md call cfg g ((first ++ vs) ++ captured) h
  | _, _ => none
@[simp] theorem opEv_call {fr : List V} {h : Heap} {f : Operand} {args : Array Operand} {tys : Array TypeId} : opEv P md call cfg fr h (.call { callee := .value f, args := args, argTypes := tys }) = callOf md call cfg h (ev fr f) (evAll fr args.toList) := rfl
@[simp] theorem callOf_some {h : Heap} {g : FuncId} {first captured vs : List V} : callOf md call cfg h (some (.func (.func g) first captured)) (some vs) = callM md call cfg g ((first ++ vs) ++ captured) h := rfl
theorem wC_loop {body : Code} {fr : List V} {h : Heap} {Q : Kont} (I : Nat → List V → Heap → Prop) {m : Nat} (hm : m < n) (h0 : I m fr h)
    (step : ∀ m fr h, I m fr h → @wC P md call cfg n ⟨body⟩ fr h ⟨@kLoop ⟨I⟩ ⟨m⟩ ⟨Q⟩⟩) : @wC P md call cfg n ⟨.loop body⟩ fr h ⟨Q⟩ := by
  have key : ∀ k m fr h, m < k → I m fr h → ∃ st, iter (code P md call (drawR P md call) cfg n body) k fr h = some st ∧ Q st.1 st.2.1 st.2.2 := by
    intro k
    induction k with
    | zero => intro m fr h hm; omega
    | succ k ih =>
      intro m fr h hm hI
      obtain ⟨⟨e, fr', h'⟩, hst, hq⟩ := step m fr h hI
      replace hst : code P md call (drawR P md call) cfg n body fr h = some (e, fr', h') := hst
      simp only [iter, hst]
      cases e with
      | normal =>
        obtain ⟨m', hm', hI'⟩ := hq
        replace hm' : m' < m := hm'
        exact ih m' fr' h' (by omega) hI'
      | exit i => exact ⟨_, rfl, hq⟩
      | ret => exact ⟨_, rfl, hq⟩
  obtain ⟨st, h1, h2⟩ := key n m fr h hm h0
  exact ⟨st, by show code P md call (drawR P md call) cfg n (.loop body) fr h = some st; rw [code]; exact h1, h2⟩
def look : List (Nat × V) → Nat → Option V
  | [], _ => none
  | (a, v) :: r, k => if a = k then some v else look r k
def fillL (l : List (Nat × V)) (j : Nat → V) : Nat → Nat → List V
  | 0, _ => []
  | c + 1, k => (look l k).getD (j k) :: fillL l j c (k + 1)
def AllS : List (Nat × V) → List V → Prop
  | [], _ => True
  | (k, v) :: r, fr => slot fr k = some v ∧ AllS r fr
def Slots (N : Nat) (l : List (Nat × V)) (fr : List V) : Prop := fr.length = N ∧ AllS l fr
@[simp] theorem AllS_nil {fr : List V} : AllS [] fr ↔ True := Iff.rfl
@[simp] theorem AllS_cons {k : Nat} {v : V} {r : List (Nat × V)} {fr : List V} : AllS ((k, v) :: r) fr ↔ slot fr k = some v ∧ AllS r fr := Iff.rfl
@[simp] theorem Slots_def {N : Nat} {l : List (Nat × V)} {fr : List V} : Slots N l fr ↔ fr.length = N ∧ AllS l fr := Iff.rfl
@[simp] theorem look_nil {k : Nat} : look [] k = none := rfl
@[simp] theorem look_cons {a k : Nat} {v : V} {r : List (Nat × V)} : look ((a, v) :: r) k = if a = k then some v else look r k := rfl
@[simp] theorem fillL_zero {l : List (Nat × V)} {j : Nat → V} {k : Nat} : fillL l j 0 k = [] := rfl
@[simp] theorem fillL_succ {l : List (Nat × V)} {j : Nat → V} {c k : Nat} : fillL l j (c + 1) k = (look l k).getD (j k) :: fillL l j c (k + 1) := rfl
theorem AllS_look {fr : List V} : ∀ {l : List (Nat × V)}, AllS l fr → ∀ k v, look l k = some v → fr[k]? = some v
  | [], _, k, v, h => by simp at h
  | (a, u) :: r, hs, k, v, h => by
    simp only [look_cons] at h
    split at h
    · rename_i hak; subst hak; cases h; exact hs.1
    · exact AllS_look hs.2 k v h
theorem fill_get (l : List (Nat × V)) (j : Nat → V) : ∀ (c k i : Nat), i < c → (fillL l j c k)[i]? = some ((look l (k + i)).getD (j (k + i)))
  | 0, _, _, h => by omega
  | c + 1, k, 0, _ => by simp
  | c + 1, k, i + 1, h => by
    simp only [fillL_succ, List.getElem?_cons_succ]
    rw [fill_get l j c (k + 1) i (by omega), show k + 1 + i = k + (i + 1) by omega]
theorem fill_len (l : List (Nat × V)) (j : Nat → V) : ∀ (c k : Nat), (fillL l j c k).length = c
  | 0, _ => rfl
  | c + 1, k => by simp [fill_len l j c]
theorem Slots.ex {N : Nat} {l : List (Nat × V)} {fr : List V} (hs : Slots N l fr) : ∃ j, fr = fillL l j N 0 := by
  obtain ⟨hl, ha⟩ := hs
  refine ⟨fun k => fr.getD k .no, List.ext_getElem? fun i => ?_⟩
  by_cases hi : i < N
  · rw [fill_get _ _ _ _ _ hi, Nat.zero_add]
    have hfi : fr[i]? = some fr[i] := List.getElem?_eq_getElem (by omega)
    cases hk : look l i with
    | none => simp [hfi]
    | some v => rw [AllS_look ha i v hk]; rfl
  · rw [List.getElem?_eq_none (by omega), List.getElem?_eq_none (by rw [fill_len]; omega)]
end
end Go.Ab
namespace Go.Ab
def kRes (o : Option (List V)) (h : Heap) [R : Hid (V → Heap → Prop)] : Prop := ∃ vs, o = some vs ∧ R.val (oneOf vs) h
def kFn (P : Program) [rs : Hid (List ResultVar)] [R : Hid (V → Heap → Prop)] (e : Ex) (fr : List V) (h : Heap) : Prop :=
  match e with
  | .exit _ => False
  | _ => @kRes (resV P fr h rs.val) h R
section
variable {P : Program} {md : FuncId → Nat} {call : Callf} {cfg : Cfg} {n : Nat} {prim : FuncId → Option Prim}
@[simp] theorem kFn_ret {rs : List ResultVar} {R : V → Heap → Prop} {fr : List V} {h : Heap} : @kFn P ⟨rs⟩ ⟨R⟩ .ret fr h ↔ @kRes (resV P fr h rs) h ⟨R⟩ := Iff.rfl
@[simp] theorem kFn_normal {rs : List ResultVar} {R : V → Heap → Prop} {fr : List V} {h : Heap} : @kFn P ⟨rs⟩ ⟨R⟩ .normal fr h ↔ @kRes (resV P fr h rs) h ⟨R⟩ := Iff.rfl
@[simp] theorem kRes_some {vs : List V} {h : Heap} {R : V → Heap → Prop} : @kRes (some vs) h ⟨R⟩ ↔ R (oneOf vs) h := by simp [kRes]
@[simp] theorem oneOf_one {v : V} : oneOf [v] = v := rfl
@[simp] theorem oneOf_two {v u : V} {r : List V} : oneOf (v :: u :: r) = .tup (v :: u :: r) := rfl
@[simp] theorem oneOf_nil : oneOf [] = .tup [] := rfl
@[simp] theorem resV_nil {fr : List V} {h : Heap} : resV P fr h [] = some [] := rfl
@[simp] theorem resV_tmp {fr : List V} {h : Heap} {t : Tmp} {r : List ResultVar} : resV P fr h (.tmp t :: r) = (slot fr t).bind fun v => (resV P fr h r).map (v :: ·) := by
  simp only [resV, slot]
  cases fr[t]? with
  | none => rfl
  | some v => cases resV P fr h r <;> rfl
@[simp] theorem resV_cell {fr : List V} {h : Heap} {a : Tmp} {t : TypeId} {r : List ResultVar} : resV P fr h (.cell a t :: r) = (slot fr a).bind fun p => (loadV P h t p).bind fun v => (resV P fr h r).map (v :: ·) := by
  simp only [resV, slot]
  cases fr[a]? with
  | none => rfl
  | some p =>
    simp only [Option.bind_some]
    cases loadV P h t p with
    | none => rfl
    | some v => cases resV P fr h r <;> rfl
theorem callN_of {d : Nat} {f : FuncId} {fn : Func} {c : Code} {k : Nat} {rs : List ResultVar} {args : List V} {h : Heap} {R : V → Heap → Prop} (hp : prim f = none) (hf : P.funcs[f]? = some fn) (hb : fn.body = some c) (hk : fn.ntmps = k)
    (hr : fn.results.toList = rs) (hw : @wC P md (callN P md prim n d) cfg n ⟨c⟩ (args ++ List.replicate (k - args.length) .no) h ⟨@kFn P ⟨rs⟩ ⟨R⟩⟩) :
    ∃ r h', callN P md prim n (d + 1) cfg f args h = some (r, h') ∧ R r h' := by
  subst hk; subst hr
  obtain ⟨⟨e, fr, h'⟩, h1, h2⟩ := hw
  replace h1 : code P md (callN P md prim n d) (drawR P md (callN P md prim n d)) cfg n c (args ++ List.replicate (fn.ntmps - args.length) V.no) h = some (e, fr, h') := h1
  simp only [callN, hp, hf, fnEv, hb, h1]
  cases e with
  | exit i => exact h2.elim
  | normal =>
    obtain ⟨vs, h3, h4⟩ := h2
    exact ⟨_, _, by simp only at h3 ⊢; rw [h3], h4⟩
  | ret =>
    obtain ⟨vs, h3, h4⟩ := h2
    exact ⟨_, _, by simp only at h3 ⊢; rw [h3], h4⟩
theorem call0 {d : Nat} {f : FuncId} {fn : Func} {c : Code} {k : Nat} {rs : List ResultVar} {args : List V} {h : Heap} {r : V} (hm : md f = 0) (hp : prim f = none) (hf : P.funcs[f]? = some fn) (hb : fn.body = some c) (hk : fn.ntmps = k)
    (hr : fn.results.toList = rs) (ha : args.all V.noref = true)
    (hw : @wC P md (callN P md prim n d) ⟨0, [], 0⟩ n ⟨c⟩ (args ++ List.replicate (k - args.length) .no) [] ⟨@kFn P ⟨rs⟩ ⟨fun r' h' => frz h' 0 6 r' = some r⟩⟩) :
    callM md (callN P md prim n (d + 1)) cfg f args h = some (r, h) := by
  obtain ⟨r', h', h1, h2⟩ := callN_of hp hf hb hk hr hw
  simp only [callM, hm, ha, if_true, h1, h2]
theorem call1 {d : Nat} {f : FuncId} {fn : Func} {c : Code} {k : Nat} {rs : List ResultVar} {args : List V} {h h2 : Heap} {r : V} (hm : md f = 1) (hp : prim f = none) (hf : P.funcs[f]? = some fn) (hb : fn.body = some c) (hk : fn.ntmps = k)
    (hr : fn.results.toList = rs)
    (hw : @wC P md (callN P md prim n d) ⟨cfg.lo, cfg.ex, h.length⟩ n ⟨c⟩ (args ++ List.replicate (k - args.length) .no) h ⟨@kFn P ⟨rs⟩ ⟨fun r' h' => frz h' h.length 6 r' = some r ∧ h'.take h.length = h2⟩⟩) :
    callM md (callN P md prim n (d + 1)) cfg f args h = some (r, h2) := by
  obtain ⟨r', h', h1, h2, h3⟩ := callN_of hp hf hb hk hr hw
  simp only [callM, hm, h1, h2, h3]
theorem call2 {d : Nat} {f : FuncId} {fn : Func} {c : Code} {k : Nat} {rs : List ResultVar} {args : List V} {h h2 : Heap} {r : V} (hm : md f = 2) (hp : prim f = none) (hf : P.funcs[f]? = some fn) (hb : fn.body = some c) (hk : fn.ntmps = k)
    (hr : fn.results.toList = rs)
    (hw : @wC P md (callN P md prim n d) cfg n ⟨c⟩ (args ++ List.replicate (k - args.length) .no) h ⟨@kFn P ⟨rs⟩ ⟨fun r' h' => r' = r ∧ h' = h2⟩⟩) :
    callM md (callN P md prim n (d + 1)) cfg f args h = some (r, h2) := by
  obtain ⟨r', h', h1, rfl, rfl⟩ := callN_of hp hf hb hk hr hw
  simp only [callM, hm, h1]
theorem call3 {d : Nat} {f : FuncId} {fn : Func} {c : Code} {k : Nat} {rs : List ResultVar} {args args' : List V} {h : Heap} {r : V} (hm : md f = 3) (hp : prim f = none) (hf : P.funcs[f]? = some fn) (hb : fn.body = some c) (hk : fn.ntmps = k)
    (hr : fn.results.toList = rs) (ha : args.mapM (frzA h) = some args')
    (hw : @wC P md (callN P md prim n d) ⟨0, [], 0⟩ n ⟨c⟩ (args' ++ List.replicate (k - args'.length) .no) [] ⟨@kFn P ⟨rs⟩ ⟨fun r' h' => own h' 6 r' = true ∧ frz h' 0 6 r' = some r⟩⟩) :
    callM md (callN P md prim n (d + 1)) cfg f args h = some (r, h) := by
  obtain ⟨r', h', h1, h2, h3⟩ := callN_of hp hf hb hk hr hw
  simp only [callM, hm, ha, h1, h2, h3, if_true]
def stat (P : Program) (ops : Array Oper) : Option Nat :=
  if popOK ops || sOK P ops then none else if okOps P ops (befs [] ops.toList) (headLen (floatMask P 0 ops.toList) (befs [] ops.toList) ops.size) then some (headLen (floatMask P 0 ops.toList) (befs [] ops.toList) ops.size) else none
def headEv (P : Program) (md : FuncId → Nat) (call : Callf) (cfg : Cfg) (n0 : Nat) (fr : List V) (h : Heap) (x : List Nat) (ld : List Nat) (op : Op) : Option (V × Heap × List Nat × List Nat) :=
    match op with
    | .call { callee := .value f, args, argTypes := _ } => match ev fr f, evAll fr args.toList with
      | some (.func (.func g) first captured), some vs =>
        match md g with
        | 0 => match callM md call ⟨h.length, [], h.length⟩ g ((first ++ vs) ++ captured) h with
          | some (v, h') => some (v, h', x, ld)
          | none => none
        | 3 => match callM md call ⟨h.length, [], h.length⟩ g ((first ++ vs) ++ captured) h with
          | some (v, h') => some (v, h', x, ld)
          | none => none
        | 1 => match (first ++ vs) ++ captured with
          | .ptr b _ :: _ =>
            if cfg.wr b && decide (b < n0) then
              match callM md call ⟨h.length, [b], h.length⟩ g ((first ++ vs) ++ captured) h with
              | some (v, h') => some (v, h', b :: x, ld)
              | none => none
            else none
          | _ => none
        | 2 => match callM md call ⟨h.length, [], h.length⟩ g ((first ++ vs) ++ captured) h with
          | some (v, h') => some (v, h', x, ld)
          | none => none
        | m =>
          if (decide (m = 4) || decide (m = 5)) && ((mapsIn h).all fun b => cfg.wr b && decide (b < n0)) then
            match callM md call ⟨h.length, mapsIn h, h.length⟩ g ((first ++ vs) ++ captured) h with
            | some (v, h') => some (v, h', mapsIn h ++ x, ld)
            | none => none
          else none
      | _, _ => none
    | .store t p y => match ev fr p with
      | some (.ptr b _) =>
        if cfg.wr b then
          match opV P ⟨h.length, [b], h.length⟩ fr h (.store t p y) with
          | some (v, h') => some (v, h', b :: x, ld)
          | none => none
        else none
      | _ => none
    | op => if headOp P op then
        match opV P cfg fr h op with
        | some (v, h') => some (v, h', x, match readsOf fr op with
          | some b => b :: ld
          | none => ld)
        | none => none
      else none
theorem headStep_eq {n0 : Nat} {ops : Array Oper} {o : Oper} {fr : List V} {h : Heap} {x : List Nat} {ld : List Nat} (hw : wantd ops fr o = some true) : headStep P md call cfg n0 ops o fr h x ld = headEv P md call cfg n0 fr h x ld o.op := by
  simp only [headStep, hw]; rfl
theorem headStep_no {n0 : Nat} {ops : Array Oper} {o : Oper} {fr : List V} {h : Heap} {x : List Nat} {ld : List Nat} (hw : wantd ops fr o = some false) : headStep P md call cfg n0 ops o fr h x ld = some (.no, h, x, ld) := by
  simp only [headStep, hw]
end
section
variable (P : Program) (md : FuncId → Nat) (call : Callf) (cfg : Cfg) (n : Nat)
def wHd [ops : Hid (Array Oper)] [l : Hid (List Oper)] [tl : Hid (List Oper)] (fr : List V) (h : Heap) [n0 : Hid Nat] [x : Hid (List Nat)] [ld : Hid (List Nat)] [Q : Hid KontO] : Prop :=
  ∃ st, headRun P md call cfg n0.val ops.val l.val fr h x.val ld.val = some st ∧ ldOK st.2.2.2 st.2.2.1 = true ∧ @wO P md call cfg ops tl st.1 st.2.1 Q
def wHS [dst : Hid (Option Tmp)] [fr : Hid (List V)] (r : Option (V × Heap × List Nat × List Nat)) [ops : Hid (Array Oper)] [l : Hid (List Oper)] [tl : Hid (List Oper)] [n0 : Hid Nat] [Q : Hid KontO] : Prop :=
  ∃ st, r = some st ∧ @wHd P md call cfg ops l tl (put fr.val dst.val st.1) st.2.1 n0 ⟨st.2.2.1⟩ ⟨st.2.2.2⟩ Q
def wHG (g : Option V) [want : Hid Bool] [dst : Hid (Option Tmp)] [op : Hid Op] [ops : Hid (Array Oper)] [l : Hid (List Oper)] [tl : Hid (List Oper)] [fr : Hid (List V)] [h : Hid Heap] [n0 : Hid Nat] [x : Hid (List Nat)] [ld : Hid (List Nat)] [Q : Hid KontO] : Prop :=
  match g with
  | some (.bool b) => @wIf (b == want.val) ⟨@wHS P md call cfg dst fr (headEv P md call cfg n0.val fr.val h.val x.val ld.val op.val) ops l tl n0 Q⟩ ⟨@wHd P md call cfg ops l tl (put fr.val dst.val .no) h.val n0 x ld Q⟩
  | some .no => @wHd P md call cfg ops l tl (put fr.val dst.val .no) h.val n0 x ld Q
  | _ => False
end
section
variable {P : Program} {md : FuncId → Nat} {call : Callf} {cfg : Cfg} {n : Nat}
theorem draw1_of {ops : Array Oper} {fr : List V} {h : Heap} {Q : Kont} {N : Nat} (hs : stat P ops = some N) (hw : @wHd P md call cfg ⟨ops⟩ ⟨ops.toList.take N⟩ ⟨ops.toList.drop N⟩ fr h ⟨h.length⟩ ⟨[]⟩ ⟨[]⟩ ⟨Q .normal⟩) :
    popOK ops = false ∧ sOK P ops = false ∧ ∃ fr2 h2, drawR1 P md call cfg ops fr h = some (fr2, h2) ∧ Q .normal fr2 h2 := by
  unfold stat at hs
  split at hs
  · cases hs
  split at hs
  · rename_i hps hok
    simp only [Bool.or_eq_true, not_or, Bool.not_eq_true] at hps
    obtain ⟨hpop, hso⟩ := hps
    cases hs
    obtain ⟨⟨fr1, h1, x, ld⟩, hr, hl, ⟨fr2, h2⟩, ho, hq⟩ := hw
    refine ⟨hpop, hso, fr2, h2, ?_, hq⟩
    simp only at hl ho
    replace hr : headRun P md call cfg h.length ops (ops.toList.take (headLen (floatMask P 0 ops.toList) (befs [] ops.toList) ops.size)) fr h [] [] = some (fr1, h1, x, ld) := hr
    replace ho : runOps P md call cfg ops (ops.toList.drop (headLen (floatMask P 0 ops.toList) (befs [] ops.toList) ops.size)) fr1 h1 = some (fr2, h2) := ho
    simp only [drawR1, hok, if_true, hr, hl, ho]
  · cases hs
theorem wC_draw {id : Nat} {ops : Array Oper} {fr : List V} {h : Heap} {Q : Kont} (N : Nat) (hs : stat P ops = some N) (hw : @wHd P md call cfg ⟨ops⟩ ⟨ops.toList.take N⟩ ⟨ops.toList.drop N⟩ fr h ⟨h.length⟩ ⟨[]⟩ ⟨[]⟩ ⟨Q .normal⟩) :
    @wC P md call cfg n ⟨.region id ops true⟩ fr h ⟨Q⟩ := by
  obtain ⟨hpop, hso, fr2, h2, hr, hq⟩ := draw1_of hs hw
  refine ⟨(.normal, fr2, h2), ?_, hq⟩
  show code P md call (drawR P md call) cfg n (.region id ops true) fr h = some (.normal, fr2, h2)
  simp only [code, drawR, hpop, hso, Bool.false_eq_true, if_false, hr]
@[simp] theorem wHd_take {ops : Array Oper} {o : Oper} {l tl : List Oper} {k : Nat} {fr : List V} {h : Heap} {n0 : Nat} {x : List Nat} {ld : List Nat} {Q : KontO} : @wHd P md call cfg ⟨ops⟩ ⟨(o :: l).take (k + 1)⟩ ⟨(o :: tl).drop (k + 1)⟩ fr h ⟨n0⟩ ⟨x⟩ ⟨ld⟩ ⟨Q⟩ ↔ @wHd P md call cfg ⟨ops⟩ ⟨o :: l.take k⟩ ⟨tl.drop k⟩ fr h ⟨n0⟩ ⟨x⟩ ⟨ld⟩ ⟨Q⟩ := Iff.rfl
@[simp] theorem wHd_take0 {ops : Array Oper} {l tl : List Oper} {fr : List V} {h : Heap} {n0 : Nat} {x : List Nat} {ld : List Nat} {Q : KontO} : @wHd P md call cfg ⟨ops⟩ ⟨l.take 0⟩ ⟨tl.drop 0⟩ fr h ⟨n0⟩ ⟨x⟩ ⟨ld⟩ ⟨Q⟩ ↔ @wHd P md call cfg ⟨ops⟩ ⟨[]⟩ ⟨tl⟩ fr h ⟨n0⟩ ⟨x⟩ ⟨ld⟩ ⟨Q⟩ := Iff.rfl
@[simp] theorem wHd_nil {ops : Array Oper} {tl : List Oper} {fr : List V} {h : Heap} {n0 : Nat} {x : List Nat} {ld : List Nat} {Q : KontO} : @wHd P md call cfg ⟨ops⟩ ⟨[]⟩ ⟨tl⟩ fr h ⟨n0⟩ ⟨x⟩ ⟨ld⟩ ⟨Q⟩ ↔ ldOK ld x = true ∧ @wO P md call cfg ⟨ops⟩ ⟨tl⟩ fr h ⟨Q⟩ := by simp [wHd, headRun]
@[simp] theorem wHd_cons {ops : Array Oper} {dst : Option Tmp} {op : Op} {ty : TypeId} {pos : String} {after : Array Edge} {l tl : List Oper} {fr : List V} {h : Heap} {n0 : Nat} {x : List Nat} {ld : List Nat} {Q : KontO} :
    @wHd P md call cfg ⟨ops⟩ ⟨{ dst := dst, op := op, type := ty, pos := pos, after := after, guard := none } :: l⟩ ⟨tl⟩ fr h ⟨n0⟩ ⟨x⟩ ⟨ld⟩ ⟨Q⟩ ↔ @wHS P md call cfg ⟨dst⟩ ⟨fr⟩ (headEv P md call cfg n0 fr h x ld op) ⟨ops⟩ ⟨l⟩ ⟨tl⟩ ⟨n0⟩ ⟨Q⟩ := by
  unfold wHd wHS
  simp only [headRun]
  rw [headStep_eq (by rfl)]
  cases ha : headEv P md call cfg n0 fr h x ld op with
  | none => simp
  | some y => obtain ⟨v, h', x', ld'⟩ := y; simp [wHd]
@[simp] theorem wHd_guard {ops : Array Oper} {dst : Option Tmp} {op : Op} {ty : TypeId} {pos : String} {after : Array Edge} {j : Nat} {want : Bool} {l tl : List Oper} {fr : List V} {h : Heap} {n0 : Nat} {x : List Nat} {ld : List Nat} {Q : KontO} :
    @wHd P md call cfg ⟨ops⟩ ⟨{ dst := dst, op := op, type := ty, pos := pos, after := after, guard := some (j, want) } :: l⟩ ⟨tl⟩ fr h ⟨n0⟩ ⟨x⟩ ⟨ld⟩ ⟨Q⟩ ↔ @wHG P md call cfg (gdOf ops fr j) ⟨want⟩ ⟨dst⟩ ⟨op⟩ ⟨ops⟩ ⟨l⟩ ⟨tl⟩ ⟨fr⟩ ⟨h⟩ ⟨n0⟩ ⟨x⟩ ⟨ld⟩ ⟨Q⟩ := by
  have hnone : ∀ o : Oper, wantd ops fr o = none → headStep P md call cfg n0 ops o fr h x ld = none := fun o ho => by simp only [headStep, ho]
  unfold wHd wHG gdOf
  simp only [headRun]
  cases hj : ops[j]? with
  | none => simp [hnone _ (show wantd ops fr { dst := dst, op := op, type := ty, pos := pos, after := after, guard := some (j, want) } = none by simp [wantd, hj])]
  | some p =>
    cases hd : p.dst with
    | none => simp [hd, hnone _ (show wantd ops fr { dst := dst, op := op, type := ty, pos := pos, after := after, guard := some (j, want) } = none by simp [wantd, hj, hd])]
    | some d =>
      simp only [hd]
      cases hf : fr[d]? with
      | none => simp [hnone _ (show wantd ops fr { dst := dst, op := op, type := ty, pos := pos, after := after, guard := some (j, want) } = none by simp [wantd, hj, hd, hf])]
      | some v =>
        by_cases hb : ∃ b, v = .bool b
        · obtain ⟨b, rfl⟩ := hb
          have hw : wantd ops fr { dst := dst, op := op, type := ty, pos := pos, after := after, guard := some (j, want) } = some (b == want) := by simp [wantd, hj, hd, hf]
          cases hbw : (b == want)
          · rw [hbw] at hw
            rw [headStep_no hw]
            simp only [hbw, wIf_false]
            simp [wHd]
          · rw [hbw] at hw
            rw [headStep_eq hw]
            simp only [hbw, wIf_true, wHS, wHd]
            cases ha : headEv P md call cfg n0 fr h x ld op with
            | none => simp
            | some y => obtain ⟨v, h', x', ld'⟩ := y; simp
        · by_cases hno : v = .no
          · subst hno
            have hw : wantd ops fr { dst := dst, op := op, type := ty, pos := pos, after := after, guard := some (j, want) } = some false := by simp [wantd, hj, hd, hf]
            rw [headStep_no hw]
            simp [wHd]
          · have hw : wantd ops fr { dst := dst, op := op, type := ty, pos := pos, after := after, guard := some (j, want) } = none := by
              simp only [wantd, hj, hd, hf]
              cases v <;> first | rfl | exact absurd ⟨_, rfl⟩ hb | exact absurd rfl hno
            rw [hnone _ hw]
            cases v <;> first | (exact absurd ⟨_, rfl⟩ hb) | (exact absurd rfl hno) | simp
@[simp] theorem wHG_bool {b want : Bool} {dst : Option Tmp} {op : Op} {ops : Array Oper} {l tl : List Oper} {fr : List V} {h : Heap} {n0 : Nat} {x : List Nat} {ld : List Nat} {Q : KontO} :
    @wHG P md call cfg (some (.bool b)) ⟨want⟩ ⟨dst⟩ ⟨op⟩ ⟨ops⟩ ⟨l⟩ ⟨tl⟩ ⟨fr⟩ ⟨h⟩ ⟨n0⟩ ⟨x⟩ ⟨ld⟩ ⟨Q⟩ ↔ @wIf (b == want) ⟨@wHS P md call cfg ⟨dst⟩ ⟨fr⟩ (headEv P md call cfg n0 fr h x ld op) ⟨ops⟩ ⟨l⟩ ⟨tl⟩ ⟨n0⟩ ⟨Q⟩⟩ ⟨@wHd P md call cfg ⟨ops⟩ ⟨l⟩ ⟨tl⟩ (put fr dst .no) h ⟨n0⟩ ⟨x⟩ ⟨ld⟩ ⟨Q⟩⟩ := Iff.rfl
@[simp] theorem wHG_no {want : Bool} {dst : Option Tmp} {op : Op} {ops : Array Oper} {l tl : List Oper} {fr : List V} {h : Heap} {n0 : Nat} {x : List Nat} {ld : List Nat} {Q : KontO} :
    @wHG P md call cfg (some .no) ⟨want⟩ ⟨dst⟩ ⟨op⟩ ⟨ops⟩ ⟨l⟩ ⟨tl⟩ ⟨fr⟩ ⟨h⟩ ⟨n0⟩ ⟨x⟩ ⟨ld⟩ ⟨Q⟩ ↔ @wHd P md call cfg ⟨ops⟩ ⟨l⟩ ⟨tl⟩ (put fr dst .no) h ⟨n0⟩ ⟨x⟩ ⟨ld⟩ ⟨Q⟩ := Iff.rfl
@[simp] theorem wHS_some {dst : Option Tmp} {fr : List V} {v : V} {h : Heap} {x : List Nat} {ld : List Nat} {ops : Array Oper} {l tl : List Oper} {n0 : Nat} {Q : KontO} :
    @wHS P md call cfg ⟨dst⟩ ⟨fr⟩ (some (v, h, x, ld)) ⟨ops⟩ ⟨l⟩ ⟨tl⟩ ⟨n0⟩ ⟨Q⟩ ↔ @wHd P md call cfg ⟨ops⟩ ⟨l⟩ ⟨tl⟩ (put fr dst v) h ⟨n0⟩ ⟨x⟩ ⟨ld⟩ ⟨Q⟩ := by simp [wHS]
@[simp] theorem ldOK_none {ld : List Nat} : ldOK ld [] = true := rfl
@[simp] theorem ldOK_some {ld x : List Nat} {b : Nat} : ldOK ld (b :: x) = (!ld.contains b && ldOK ld x) := rfl
@[simp] theorem ldOK_app {ld x y : List Nat} : ldOK ld (x ++ y) = (ldOK ld x && ldOK ld y) := List.all_append
def addLd (p : Option V) (ld : List Nat) : List Nat :=
  match p with
  | some (.ptr b _) => b :: ld
  | _ => ld
@[simp] theorem addLd_ptr {b off : Nat} {ld : List Nat} : addLd (some (.ptr b off)) ld = b :: ld := rfl
@[simp] theorem addLd_lptr {cs : List V} {off : Nat} {ld : List Nat} : addLd (some (.lptr cs off)) ld = ld := rfl
@[simp] theorem addLd_lst {cs : List (List V)} {ld : List Nat} : addLd (some (.lst cs)) ld = ld := rfl
@[simp] theorem addLd_sl {a b c d e : Nat} {ld : List Nat} : addLd (some (.sl a b c d e)) ld = ld := rfl
@[simp] theorem addLd_nils {ld : List Nat} : addLd (some .nils) ld = ld := rfl
@[simp] theorem addLd_str {s : ByteArray} {ld : List Nat} : addLd (some (.str s)) ld = ld := rfl
theorem headEv_plain {n0 : Nat} {fr : List V} {h : Heap} {x : List Nat} {ld : List Nat} {op : Op} (h1 : ∀ f a t, op ≠ .call { callee := .value f, args := a, argTypes := t }) (h2 : ∀ t p y, op ≠ .store t p y) (h3 : headOp P op = true) (h4 : readsOf fr op = none) :
    headEv P md call cfg n0 fr h x ld op = (opEv P md call cfg fr h op).map fun r => (r.1, r.2, x, ld) := by
  have he : opEv P md call cfg fr h op = opV P cfg fr h op := by
    unfold opEv
    split
    · exact absurd rfl (h1 _ _ _)
    · rfl
  rw [he]
  unfold headEv
  split
  · exact absurd rfl (h1 _ _ _)
  · exact absurd rfl (h2 _ _ _)
  · simp only [h3, if_true, h4]
    cases opV P cfg fr h op <;> rfl
@[simp] theorem headEv_move {n0 : Nat} {fr : List V} {h : Heap} {x : List Nat} {ld : List Nat} {a : Operand} : headEv P md call cfg n0 fr h x ld (.move a) = (opEv P md call cfg fr h (.move a)).map fun r => (r.1, r.2, x, ld) := headEv_plain (by simp) (by simp) rfl rfl
@[simp] theorem headEv_assign {n0 : Nat} {fr : List V} {h : Heap} {x : List Nat} {ld : List Nat} {a : Operand} : headEv P md call cfg n0 fr h x ld (.assign a) = (opEv P md call cfg fr h (.assign a)).map fun r => (r.1, r.2, x, ld) := headEv_plain (by simp) (by simp) rfl rfl
@[simp] theorem headEv_pick {n0 : Nat} {fr : List V} {h : Heap} {x : List Nat} {ld : List Nat} {a b c : Operand} : headEv P md call cfg n0 fr h x ld (.pick a b c) = (opEv P md call cfg fr h (.pick a b c)).map fun r => (r.1, r.2, x, ld) := headEv_plain (by simp) (by simp) rfl rfl
@[simp] theorem headEv_build {n0 : Nat} {fr : List V} {h : Heap} {x : List Nat} {ld : List Nat} {t : TypeId} {p : Array (Nat × Operand)} : headEv P md call cfg n0 fr h x ld (.build t p) = (opEv P md call cfg fr h (.build t p)).map fun r => (r.1, r.2, x, ld) := headEv_plain (by simp) (by simp) rfl rfl
@[simp] theorem headEv_nilCheck {n0 : Nat} {fr : List V} {h : Heap} {x : List Nat} {ld : List Nat} {a : Operand} : headEv P md call cfg n0 fr h x ld (.nilCheck a) = (opEv P md call cfg fr h (.nilCheck a)).map fun r => (r.1, r.2, x, ld) := headEv_plain (by simp) (by simp) rfl rfl
@[simp] theorem headEv_binOp {n0 : Nat} {fr : List V} {h : Heap} {x : List Nat} {ld : List Nat} {o : BinOp} {t u : TypeId} {a b : Operand} : headEv P md call cfg n0 fr h x ld (.binOp o t a b u) = (opEv P md call cfg fr h (.binOp o t a b u)).map fun r => (r.1, r.2, x, ld) := headEv_plain (by simp) (by simp) rfl rfl
@[simp] theorem headEv_unOp {n0 : Nat} {fr : List V} {h : Heap} {x : List Nat} {ld : List Nat} {o : UnOp} {t : TypeId} {a : Operand} : headEv P md call cfg n0 fr h x ld (.unOp o t a) = (opEv P md call cfg fr h (.unOp o t a)).map fun r => (r.1, r.2, x, ld) := headEv_plain (by simp) (by simp) rfl rfl
@[simp] theorem headEv_makeFunc {n0 : Nat} {fr : List V} {h : Heap} {x : List Nat} {ld : List Nat} {f : Fn} {a b : Array Operand} : headEv P md call cfg n0 fr h x ld (.makeFunc f a b) = (opEv P md call cfg fr h (.makeFunc f a b)).map fun r => (r.1, r.2, x, ld) := headEv_plain (by simp) (by simp) rfl rfl
@[simp] theorem headEv_fieldAddr {n0 : Nat} {fr : List V} {h : Heap} {x : List Nat} {ld : List Nat} {t : TypeId} {a : Operand} {i : Nat} : headEv P md call cfg n0 fr h x ld (.fieldAddr t a i) = (opEv P md call cfg fr h (.fieldAddr t a i)).map fun r => (r.1, r.2, x, ld) := headEv_plain (by simp) (by simp) rfl rfl
@[simp] theorem headEv_field {n0 : Nat} {fr : List V} {h : Heap} {x : List Nat} {ld : List Nat} {t : TypeId} {a : Operand} {i : Nat} : headEv P md call cfg n0 fr h x ld (.field t a i) = (opEv P md call cfg fr h (.field t a i)).map fun r => (r.1, r.2, x, ld) := headEv_plain (by simp) (by simp) rfl rfl
@[simp] theorem headEv_indexAddr {n0 : Nat} {fr : List V} {h : Heap} {x : List Nat} {ld : List Nat} {t : TypeId} {a i : Operand} : headEv P md call cfg n0 fr h x ld (.indexAddr t a i) = (opEv P md call cfg fr h (.indexAddr t a i)).map fun r => (r.1, r.2, x, ld) := headEv_plain (by simp) (by simp) rfl rfl
@[simp] theorem headEv_index {n0 : Nat} {fr : List V} {h : Heap} {x : List Nat} {ld : List Nat} {t : TypeId} {a i : Operand} : headEv P md call cfg n0 fr h x ld (.index t a i) = (opEv P md call cfg fr h (.index t a i)).map fun r => (r.1, r.2, x, ld) := headEv_plain (by simp) (by simp) rfl rfl
@[simp] theorem headEv_extract {n0 : Nat} {fr : List V} {h : Heap} {x : List Nat} {ld : List Nat} {a : Operand} {i : Nat} : headEv P md call cfg n0 fr h x ld (.extract a i) = (opEv P md call cfg fr h (.extract a i)).map fun r => (r.1, r.2, x, ld) := headEv_plain (by simp) (by simp) rfl rfl
@[simp] theorem headEv_alloc {n0 : Nat} {fr : List V} {h : Heap} {x : List Nat} {ld : List Nat} {t : TypeId} : headEv P md call cfg n0 fr h x ld (.alloc t) = (opEv P md call cfg fr h (.alloc t)).map fun r => (r.1, r.2, x, ld) := headEv_plain (by simp) (by simp) rfl rfl
@[simp] theorem headEv_box {n0 : Nat} {fr : List V} {h : Heap} {x : List Nat} {ld : List Nat} {t : TypeId} {a : Operand} : headEv P md call cfg n0 fr h x ld (.box t a) = (opEv P md call cfg fr h (.box t a)).map fun r => (r.1, r.2, x, ld) := headEv_plain (by simp) (by simp) rfl rfl
@[simp] theorem headEv_buildSlice {n0 : Nat} {fr : List V} {h : Heap} {x : List Nat} {ld : List Nat} {t : TypeId} {k : Nat} {p : Array (Nat × Operand)} : headEv P md call cfg n0 fr h x ld (.buildSlice t k p) = (opEv P md call cfg fr h (.buildSlice t k p)).map fun r => (r.1, r.2, x, ld) := headEv_plain (by simp) (by simp) rfl rfl
@[simp] theorem headEv_makeMap {n0 : Nat} {fr : List V} {h : Heap} {x : List Nat} {ld : List Nat} {t : TypeId} : headEv P md call cfg n0 fr h x ld (.makeMap t none) = (opEv P md call cfg fr h (.makeMap t none)).map fun r => (r.1, r.2, x, ld) := headEv_plain (by simp) (by simp) rfl rfl
@[simp] theorem headEv_makeSlice {n0 : Nat} {fr : List V} {h : Heap} {x : List Nat} {ld : List Nat} {t : TypeId} {a b : Operand} : headEv P md call cfg n0 fr h x ld (.makeSlice t a b) = (opEv P md call cfg fr h (.makeSlice t a b)).map fun r => (r.1, r.2, x, ld) := headEv_plain (by simp) (by simp) rfl rfl
@[simp] theorem headEv_len {n0 : Nat} {fr : List V} {h : Heap} {x : List Nat} {ld : List Nat} {a : Array Operand} {t : Array TypeId} : headEv P md call cfg n0 fr h x ld (.call { callee := .builtin .len, args := a, argTypes := t }) = (opEv P md call cfg fr h (.call { callee := .builtin .len, args := a, argTypes := t })).map fun r => (r.1, r.2, x, ld) := headEv_plain (by simp) (by simp) rfl rfl
@[simp] theorem headEv_min {n0 : Nat} {fr : List V} {h : Heap} {x : List Nat} {ld : List Nat} {a : Array Operand} {t : Array TypeId} : headEv P md call cfg n0 fr h x ld (.call { callee := .builtin .min, args := a, argTypes := t }) = (opEv P md call cfg fr h (.call { callee := .builtin .min, args := a, argTypes := t })).map fun r => (r.1, r.2, x, ld) := headEv_plain (by simp) (by simp) rfl rfl
@[simp] theorem headEv_max {n0 : Nat} {fr : List V} {h : Heap} {x : List Nat} {ld : List Nat} {a : Array Operand} {t : Array TypeId} : headEv P md call cfg n0 fr h x ld (.call { callee := .builtin .max, args := a, argTypes := t }) = (opEv P md call cfg fr h (.call { callee := .builtin .max, args := a, argTypes := t })).map fun r => (r.1, r.2, x, ld) := headEv_plain (by simp) (by simp) rfl rfl
@[simp] theorem headEv_load {n0 : Nat} {fr : List V} {h : Heap} {x : List Nat} {ld : List Nat} {t : TypeId} {a : Operand} : headEv P md call cfg n0 fr h x ld (.load t a) = (opEv P md call cfg fr h (.load t a)).map fun r => (r.1, r.2, x, addLd (ev fr a) ld) := by
  simp only [headEv, opEv, headOp, if_true, readsOf]
  cases hv : opV P cfg fr h (.load t a) with
  | none => rfl
  | some y =>
    cases ha : ev fr a with
    | none => rfl
    | some v => cases v <;> rfl
@[simp] theorem headEv_slice {n0 : Nat} {fr : List V} {h : Heap} {x : List Nat} {ld : List Nat} {t : TypeId} {a : Operand} {lo hi : Option Operand} : headEv P md call cfg n0 fr h x ld (.slice t a lo hi none) = (opEv P md call cfg fr h (.slice t a lo hi none)).map fun r => (r.1, r.2, x, addLd (ev fr a) ld) := by
  simp only [headEv, opEv, headOp, if_true, readsOf]
  cases hv : opV P cfg fr h (.slice t a lo hi none) with
  | none => rfl
  | some y =>
    cases ha : ev fr a with
    | none => rfl
    | some v => cases v <;> rfl
@[simp] theorem headEv_convert {n0 : Nat} {fr : List V} {h : Heap} {x : List Nat} {ld : List Nat} {s d : TypeId} {a : Operand} : headEv P md call cfg n0 fr h x ld (.convert s d a) = if headOp P (.convert s d a) then (opEv P md call cfg fr h (.convert s d a)).map fun r => (r.1, r.2, x, ld) else none := by
  simp only [headEv, opEv, readsOf]
  split
  · cases hv : opV P cfg fr h (.convert s d a) <;> rfl
  · rfl
def hdCall (md : FuncId → Nat) (call : Callf) (cfg : Cfg) (n0 : Nat) (h : Heap) (x : List Nat) (ld : List Nat) (m : Nat) (g : FuncId) (vs : List V) : Option (V × Heap × List Nat × List Nat) :=
  match m with
  | 0 => (callM md call ⟨h.length, [], h.length⟩ g vs h).map fun r => (r.1, r.2, x, ld)
  | 3 => (callM md call ⟨h.length, [], h.length⟩ g vs h).map fun r => (r.1, r.2, x, ld)
  | 1 => match vs with
    | .ptr b _ :: _ => if cfg.wr b && decide (b < n0) then (callM md call ⟨h.length, [b], h.length⟩ g vs h).map fun r => (r.1, r.2, b :: x, ld) else none
    | _ => none
  | 2 => (callM md call ⟨h.length, [], h.length⟩ g vs h).map fun r => (r.1, r.2, x, ld)
  | m => if (decide (m = 4) || decide (m = 5)) && ((mapsIn h).all fun b => cfg.wr b && decide (b < n0)) then (callM md call ⟨h.length, mapsIn h, h.length⟩ g vs h).map fun r => (r.1, r.2, mapsIn h ++ x, ld) else none
def hdCallOf (md : FuncId → Nat) (call : Callf) (cfg : Cfg) (n0 : Nat) (h : Heap) (x : List Nat) (ld : List Nat) (f : Option V) (vs : Option (List V)) : Option (V × Heap × List Nat × List Nat) :=
  match f, vs with
  | some (.func (.func g) first captured), some vs => hdCall md call cfg n0 h x ld (md g) g ((first ++ vs) ++ captured)
  | _, _ => none
@[simp] theorem headEv_call {n0 : Nat} {fr : List V} {h : Heap} {x : List Nat} {ld : List Nat} {f : Operand} {a : Array Operand} {t : Array TypeId} : headEv P md call cfg n0 fr h x ld (.call { callee := .value f, args := a, argTypes := t }) = hdCallOf md call cfg n0 h x ld (ev fr f) (evAll fr a.toList) := by
  simp only [headEv, hdCallOf]
  split
  · rename_i g first captured vs hf hvs
    unfold hdCall
    split <;> rename_i hm
    · cases callM md call ⟨h.length, [], h.length⟩ g (first ++ vs ++ captured) h <;> rfl
    · cases callM md call ⟨h.length, [], h.length⟩ g (first ++ vs ++ captured) h <;> rfl
    · split
      · rename_i b off rest has
        split
        · cases callM md call ⟨h.length, [b], h.length⟩ g (first ++ vs ++ captured) h <;> rfl
        · rfl
      · rfl
    · cases callM md call ⟨h.length, [], h.length⟩ g (first ++ vs ++ captured) h <;> rfl
    · split
      · cases callM md call ⟨h.length, mapsIn h, h.length⟩ g (first ++ vs ++ captured) h <;> rfl
      · rfl
  · rfl
@[simp] theorem hdCallOf_some {n0 : Nat} {h : Heap} {x : List Nat} {ld : List Nat} {g : FuncId} {first captured vs : List V} : hdCallOf md call cfg n0 h x ld (some (.func (.func g) first captured)) (some vs) = hdCall md call cfg n0 h x ld (md g) g ((first ++ vs) ++ captured) := rfl
@[simp] theorem hdCall_0 {n0 : Nat} {h : Heap} {x : List Nat} {ld : List Nat} {g : FuncId} {vs : List V} : hdCall md call cfg n0 h x ld 0 g vs = (callM md call ⟨h.length, [], h.length⟩ g vs h).map fun r => (r.1, r.2, x, ld) := rfl
@[simp] theorem hdCall_3 {n0 : Nat} {h : Heap} {x : List Nat} {ld : List Nat} {g : FuncId} {vs : List V} : hdCall md call cfg n0 h x ld 3 g vs = (callM md call ⟨h.length, [], h.length⟩ g vs h).map fun r => (r.1, r.2, x, ld) := rfl
@[simp] theorem hdCall_2 {n0 : Nat} {h : Heap} {x : List Nat} {ld : List Nat} {g : FuncId} {vs : List V} : hdCall md call cfg n0 h x ld 2 g vs = (callM md call ⟨h.length, [], h.length⟩ g vs h).map fun r => (r.1, r.2, x, ld) := rfl
@[simp] theorem hdCall_1 {n0 : Nat} {h : Heap} {x : List Nat} {ld : List Nat} {g : FuncId} {b off : Nat} {vs : List V} : hdCall md call cfg n0 h x ld 1 g (.ptr b off :: vs) = if cfg.wr b && decide (b < n0) then (callM md call ⟨h.length, [b], h.length⟩ g (.ptr b off :: vs) h).map fun r => (r.1, r.2, b :: x, ld) else none := rfl
@[simp] theorem hdCall_4 {n0 : Nat} {h : Heap} {x : List Nat} {ld : List Nat} {g : FuncId} {vs : List V} : hdCall md call cfg n0 h x ld 4 g vs = if ((mapsIn h).all fun b => cfg.wr b && decide (b < n0)) then (callM md call ⟨h.length, mapsIn h, h.length⟩ g vs h).map fun r => (r.1, r.2, mapsIn h ++ x, ld) else none := rfl
@[simp] theorem hdCall_5 {n0 : Nat} {h : Heap} {x : List Nat} {ld : List Nat} {g : FuncId} {vs : List V} : hdCall md call cfg n0 h x ld 5 g vs = if ((mapsIn h).all fun b => cfg.wr b && decide (b < n0)) then (callM md call ⟨h.length, mapsIn h, h.length⟩ g vs h).map fun r => (r.1, r.2, mapsIn h ++ x, ld) else none := rfl
def hdStore (P : Program) (cfg : Cfg) (h : Heap) (x : List Nat) (ld : List Nat) (t : TypeId) (p v : Option V) : Option (V × Heap × List Nat × List Nat) :=
  match p with
  | some (.ptr b off) => if cfg.wr b then (v.bind fun v => storeV P ⟨h.length, [b], h.length⟩ h t (.ptr b off) v).map fun h' => (.no, h', b :: x, ld) else none
  | _ => none
@[simp] theorem headEv_store {n0 : Nat} {fr : List V} {h : Heap} {x : List Nat} {ld : List Nat} {t : TypeId} {p y : Operand} : headEv P md call cfg n0 fr h x ld (.store t p y) = hdStore P cfg h x ld t (ev fr p) (ev fr y) := by
  simp only [headEv, hdStore, opV]
  split
  · rename_i b off hp
    simp only [hp]
    split
    · cases ev fr y with
      | none => simp
      | some v => simp only [Option.bind_some]; cases storeV P ⟨h.length, [b], h.length⟩ h t (.ptr b off) v <;> rfl
    · rfl
  · rfl
@[simp] theorem hdStore_some {h : Heap} {x : List Nat} {ld : List Nat} {t : TypeId} {b off : Nat} {v : Option V} : hdStore P cfg h x ld t (some (.ptr b off)) v = if cfg.wr b then (v.bind fun v => storeV P ⟨h.length, [b], h.length⟩ h t (.ptr b off) v).map fun h' => (.no, h', b :: x, ld) else none := rfl
end
end Go.Ab
namespace Go.Ab
def idxL (s : Nat) (xs : List (List V)) (i : Int) : Option V :=
  if 0 ≤ i then match xs[i.toNat]? with
    | some e => if e.length = s then some (.lptr e 0) else none
    | none => none
  else none
def idxS (s b off len c : Nat) (i : Int) : Option V :=
  if 0 ≤ i then if i.toNat < len && s == c then some (.ptr b (off + i.toNat * c)) else none else none
def slcL (s : Nat) (xs : List (List V)) (lo hi : Option Nat) : Option V :=
  match lo, hi with
  | some l, some r => if decide (l ≤ r) && decide (r ≤ xs.length) && (l == r || (xs[l]?).map List.length == some s) then some (.lst ((xs.take r).drop l)) else none
  | _, _ => none
def slcS (s b off len cap k : Nat) (lo hi : Option Nat) : Option V :=
  match lo, hi with
  | some l, some r =>
    if s = k && decide (l ≤ r) && decide (r ≤ len) && decide (len ≤ cap) then
      if l = 0 then some (.sl b off r cap k)
      else if l = r then some (.lst [])
      else some (.sl b (off + l * k) (r - l) (cap - l) k)
    else none
  | _, _ => none
def slcN (lo hi : Option Nat) : Option V :=
  match lo, hi with
  | some 0, some 0 => some .nils
  | _, _ => none
def mkS (h : Heap) (s y : Nat) (z : List V) (n m : Int) : Option (V × Heap) :=
  if 0 ≤ n && n ≤ m && roomy m.toNat y then some (.sl h.length 0 n.toNat m.toNat s, h ++ [some (zerosFor z m.toNat)]) else none
def appD (cfg : Cfg) (h : Heap) (s y : Nat) (d : V) (n : Nat) (new : List V) : Option (V × Heap) :=
  match d with
  | .nils => if roomy n y then
      if n = 0 then some (.nils, h) else some (.sl h.length 0 n n s, h ++ [some new])
    else none
  | .sl b off len cap k =>
    if k = s && roomy (len + n) y then
      if len + n ≤ cap then
        match storeCellsV cfg h b (off + len * s) new with
        | some h' => some (.sl b off (len + n) cap k, h')
        | none => none
      else match blockOf h b with
        | some cs => if off = 0 && cfg.wr b && decide (len * s ≤ cs.length) then
            some (.sl h.length 0 (len + n) (len + n) k, (h.set b none) ++ [some (cs.take (len * s) ++ new)])
          else none
        | none => none
    else none
  | _ => none
def appS (cfg : Cfg) (h : Heap) (s y : Nat) (d : V) (src : Option (Nat × List V)) : Option (V × Heap) :=
  match src with
  | some (n, new) => if new.all V.leaf then appD cfg h s y d n new else none
  | none => none
def stv (cfg : Cfg) (h : Heap) (b off s : Nat) (vs : Option (List V)) : Option Heap :=
  match vs with
  | some vs => if vs.length = s then storeCellsV cfg h b off vs else none
  | none => none
section
variable {P : Program} {cfg : Cfg} {h : Heap} {t e : TypeId} {s y : Nat}
theorem idxL_eq (hu : P.underlying t = some (.slice e)) (hs : szOf P e = some s) {xs : List (List V)} {k : IntKind} {i : Int} : indexAddrV P t (.lst xs) (.int k i) = idxL s xs i := by
  simp only [indexAddrV, hu, hs, idxL]
  split <;> rfl
theorem idxS_eq (hu : P.underlying t = some (.slice e)) (hs : szOf P e = some s) {b off len cap c : Nat} {k : IntKind} {i : Int} : indexAddrV P t (.sl b off len cap c) (.int k i) = idxS s b off len c i := by
  simp only [indexAddrV, hu, hs, idxS]
@[simp] theorem idxL_of {xs : List (List V)} {i : Int} (hi : 0 ≤ i) : idxL s xs i = (xs[i.toNat]?).bind fun e => if e.length = s then some (.lptr e 0) else none := by
  simp only [idxL, hi, if_true]
  cases xs[i.toNat]? <;> rfl
@[simp] theorem idxS_of {b off len : Nat} {i : Int} (hi : 0 ≤ i) (hl : i.toNat < len) : idxS s b off len s i = some (.ptr b (off + i.toNat * s)) := by
  simp [idxS, hi, hl]
theorem slcL_eq (hu : P.underlying t = some (.slice e)) (hs : szOf P e = some s) {xs : List (List V)} {lo hi : Option (Option V)} : sliceV P h t (.lst xs) lo hi = slcL s xs (boundV 0 lo) (boundV xs.length hi) := by
  simp only [sliceV, hu, hs, slcL]
  cases boundV 0 lo <;> cases boundV xs.length hi <;> rfl
@[simp] theorem boundV_none {d : Nat} : boundV d none = some d := rfl
@[simp] theorem boundV_some {d : Nat} {k : IntKind} {i : Int} (hi : 0 ≤ i) : boundV d (some (some (.int k i))) = some i.toNat := by simp [boundV, hi]
theorem slcL_of {xs : List (List V)} {l r : Nat} (h1 : l ≤ r) (h2 : r ≤ xs.length) (hk : ∀ e ∈ xs, e.length = s) : slcL s xs (some l) (some r) = some (.lst ((xs.take r).drop l)) := by
  simp only [slcL]
  rw [if_pos]
  simp only [h1, h2, decide_true, Bool.true_and, Bool.or_eq_true, beq_iff_eq]
  by_cases hlr : l = r
  · exact .inl hlr
  · right
    have : l < xs.length := by omega
    rw [List.getElem?_eq_getElem this]
    simp [hk _ (List.getElem_mem this)]
@[simp] theorem slcL_ints {k : IntKind} {l : List Int} {a b : Nat} (h1 : a ≤ b) (h2 : b ≤ l.length) : slcL 1 (l.map fun n => [V.int k n]) (some a) (some b) = some (.lst (((l.take b).drop a).map fun n => [V.int k n])) := by
  rw [slcL_of h1 (by simpa using h2) (by simp)]
  simp [List.map_drop, List.map_take]
@[simp] theorem slcS_of {b off len cap l r : Nat} (h1 : l ≤ r) (h2 : r ≤ len) (h3 : len ≤ cap) : slcS s b off len cap s (some l) (some r) = if l = 0 then some (.sl b off r cap s) else if l = r then some (.lst []) else some (.sl b (off + l * s) (r - l) (cap - l) s) := by
  simp [slcS, h1, h2, h3]
@[simp] theorem slcN_of : slcN (some 0) (some 0) = some .nils := rfl
theorem mkS_eq (hu : P.underlying t = some (.slice e)) (hs : szOf P e = some s) (hy : bytesOf P e = some y) {z : V} {zc : List V} (hz : zeroOf P e = some z) (hzc : vcells z = zc) (hl : (zc.length == s) = true) (hp : decide (0 < s) = true) {n m : Int} :
    makeSliceV P h t (.int .i64 n) (.int .i64 m) = mkS h s y zc n m := by
  subst hzc
  simp only [makeSliceV, hu, hs, hy, hz, mkS, hl, hp, Bool.and_true]
@[simp] theorem mkS_of {z : List V} {n m : Int} (h1 : 0 ≤ n) (h2 : n ≤ m) (h3 : m * y ≤ 1099511627776) (h4 : m ≤ 1099511627776) : mkS h s y z n m = some (.sl h.length 0 n.toNat m.toNat s, h ++ [some (zerosFor z m.toNat)]) := by
  have e1 : m.toNat * y ≤ 1099511627776 := by
    have hm : (m.toNat : Int) = m := Int.toNat_of_nonneg (by omega)
    have : ((m.toNat * y : Nat) : Int) = m * y := by rw [Int.natCast_mul, hm]
    omega
  have hr : roomy m.toNat y = true := by simp [roomy, e1]; omega
  simp [mkS, hr, h1, h2]
theorem appS_eq (hu : P.underlying t = some (.slice e)) (hs : szOf P e = some s) (hy : bytesOf P e = some y) (hz : zeroFits P e s = true) (hp : decide (0 < s) = true) {d x : V} : appendV P cfg h t t d x = appS cfg h s y d (srcCells h s x) := by
  simp only [appendV, hu, hs, hy, appS]
  cases srcCells h s x with
  | none => rfl
  | some p =>
    obtain ⟨n, new⟩ := p
    simp only [hp, hz, decide_true, Bool.and_true]
    split
    · unfold appD; rfl
    · rfl
@[simp] theorem appS_some {d : V} {n : Nat} {new : List V} : appS cfg h s y d (some (n, new)) = if new.all V.leaf then appD cfg h s y d n new else none := rfl
theorem appD_nils {n : Nat} {new : List V} (h1 : n * y ≤ 1099511627776) (h2 : n ≤ 1099511627776) (h3 : 0 < n) : appD cfg h s y .nils n new = some (.sl h.length 0 n n s, h ++ [some new]) := by
  have hr : roomy n y = true := by simp [roomy]; omega
  simp only [appD, hr, if_true]
  rw [if_neg (by omega)]
theorem appD_grow {b len cap n : Nat} {cs new : List V} (hb : blockOf h b = some cs) (hw : cfg.wr b = true) (h1 : (len + n) * y ≤ 1099511627776) (h2 : len + n ≤ 1099511627776) (h3 : cap < len + n) (h4 : len * s ≤ cs.length) :
    appD cfg h s y (.sl b 0 len cap s) n new = some (.sl h.length 0 (len + n) (len + n) s, (h.set b none) ++ [some (cs.take (len * s) ++ new)]) := by
  have hr : roomy (len + n) y = true := by simp [roomy]; omega
  simp only [appD, hr, hb, hw, h4, decide_true, Bool.and_true, if_true]
  rw [if_neg (by omega)]
theorem lenL_eq (hu : P.underlying t = some (.slice e)) {xs : List (List V)} : lenV P t (.lst xs) = some (.int .i64 xs.length) := by simp only [lenV, hu]
theorem lenS_eq (hu : P.underlying t = some (.slice e)) {b off len cap k : Nat} : lenV P t (.sl b off len cap k) = some (.int .i64 len) := by simp only [lenV, hu]
theorem lenN_eq (hu : P.underlying t = some (.slice e)) : lenV P t .nils = some (.int .i64 0) := by simp only [lenV, hu]
theorem part_leaf (ha : isAg P t = some false) {cs : List V} {off : Nat} : part P t cs off = slot cs off := by simp only [part, ha, slot]
theorem part_agg (ha : isAg P t = some true) (hs : szOf P t = some s) {cs : List V} {off : Nat} : part P t cs off = if off + s ≤ cs.length then some (.agg ((cs.drop off).take s)) else none := by simp only [part, ha, hs]
@[simp] theorem loadV_ptr {b off : Nat} : loadV P h t (.ptr b off) = (blockOf h b).bind fun cs => part P t cs off := by
  simp only [loadV]; cases blockOf h b <;> rfl
@[simp] theorem loadV_lptr {cs : List V} {off : Nat} : loadV P h t (.lptr cs off) = part P t cs off := rfl
theorem store_eq (hs : szOf P t = some s) {b off : Nat} {v : V} : storeV P cfg h t (.ptr b off) v = stv cfg h b off s (cellsOf v) := by
  simp only [storeV, hs, stv]; cases cellsOf v <;> rfl
@[simp] theorem stv_some {b off : Nat} {vs : List V} : stv cfg h b off s (some vs) = if vs.length = s then storeCellsV cfg h b off vs else none := rfl
@[simp] theorem storeCells_eq {b off : Nat} {vs : List V} : storeCellsV cfg h b off vs = (blockOf h b).bind fun cs => if off + vs.length ≤ cs.length && cfg.wr b && (decide (cfg.thr ≤ b) || vs.all V.rf) then some (h.set b (some (putAt cs off vs))) else none := by
  simp only [storeCellsV]; cases blockOf h b <;> rfl
@[simp] theorem putAt_nil {cs : List V} {off : Nat} : putAt cs off [] = cs := rfl
@[simp] theorem putAt_cons {cs r : List V} {off : Nat} {v : V} : putAt cs off (v :: r) = putAt (setS cs off v) (off + 1) r := rfl
@[simp] theorem cellsOf_int {k : IntKind} {i : Int} : cellsOf (.int k i) = some [.int k i] := rfl
@[simp] theorem cellsOf_bool {b : Bool} : cellsOf (.bool b) = some [.bool b] := rfl
@[simp] theorem cellsOf_str {x : ByteArray} : cellsOf (.str x) = some [.str x] := rfl
@[simp] theorem cellsOf_lst {xs : List (List V)} : cellsOf (.lst xs) = some [.lst xs] := rfl
@[simp] theorem cellsOf_nils : cellsOf .nils = some [.nils] := rfl
@[simp] theorem cellsOf_nilp : cellsOf .nilp = some [.nilp] := rfl
@[simp] theorem cellsOf_ptr {b off : Nat} : cellsOf (.ptr b off) = some [.ptr b off] := rfl
@[simp] theorem cellsOf_sl {a b c d e : Nat} : cellsOf (.sl a b c d e) = some [.sl a b c d e] := rfl
@[simp] theorem cellsOf_func {f : Fn} {a b : List V} : cellsOf (.func f a b) = some [.func f a b] := rfl
@[simp] theorem cellsOf_agg {cs : List V} : cellsOf (.agg cs) = if cs.all V.leaf then some cs else none := rfl
@[simp] theorem leaf_int {k : IntKind} {i : Int} : (V.int k i).leaf = true := rfl
@[simp] theorem leaf_bool {b : Bool} : (V.bool b).leaf = true := rfl
@[simp] theorem leaf_str {x : ByteArray} : (V.str x).leaf = true := rfl
@[simp] theorem leaf_lst {xs : List (List V)} : (V.lst xs).leaf = true := rfl
@[simp] theorem leaf_nils : V.nils.leaf = true := rfl
@[simp] theorem leaf_nilp : V.nilp.leaf = true := rfl
@[simp] theorem leaf_ptr {b off : Nat} : (V.ptr b off).leaf = true := rfl
@[simp] theorem leaf_sl {a b c d e : Nat} : (V.sl a b c d e).leaf = true := rfl
@[simp] theorem leaf_func {f : Fn} {a b : List V} : (V.func f a b).leaf = true := rfl
@[simp] theorem rf_int {k : IntKind} {i : Int} : (V.int k i).rf = true := rfl
@[simp] theorem rf_bool {b : Bool} : (V.bool b).rf = true := rfl
@[simp] theorem rf_str {x : ByteArray} : (V.str x).rf = true := rfl
@[simp] theorem rf_lst {xs : List (List V)} : (V.lst xs).rf = true := rfl
@[simp] theorem rf_nils : V.nils.rf = true := rfl
@[simp] theorem rf_nilp : V.nilp.rf = true := rfl
@[simp] theorem rf_ptr {b off : Nat} : (V.ptr b off).rf = false := rfl
@[simp] theorem rf_sl {a b c d e : Nat} : (V.sl a b c d e).rf = false := rfl
@[simp] theorem noref_int {k : IntKind} {i : Int} : (V.int k i).noref = true := rfl
@[simp] theorem noref_bool {b : Bool} : (V.bool b).noref = true := rfl
@[simp] theorem noref_str {x : ByteArray} : (V.str x).noref = true := rfl
@[simp] theorem noref_lst {xs : List (List V)} : (V.lst xs).noref = true := rfl
@[simp] theorem noref_nils : V.nils.noref = true := rfl
@[simp] theorem noref_agg {cs : List V} : (V.agg cs).noref = cs.all V.rf := rfl
@[simp] theorem noref_ptr {b off : Nat} : (V.ptr b off).noref = false := rfl
@[simp] theorem noref_sl {a b c d e : Nat} : (V.sl a b c d e).noref = false := rfl
@[simp] theorem vcells_agg {cs : List V} : vcells (.agg cs) = cs := rfl
@[simp] theorem vcells_int {k : IntKind} {i : Int} : vcells (.int k i) = [.int k i] := rfl
@[simp] theorem vcells_bool {b : Bool} : vcells (.bool b) = [.bool b] := rfl
@[simp] theorem vcells_str {x : ByteArray} : vcells (.str x) = [.str x] := rfl
@[simp] theorem vcells_nils : vcells .nils = [.nils] := rfl
@[simp] theorem vcells_nilp : vcells .nilp = [.nilp] := rfl
@[simp] theorem vcells_nilf : vcells .nilf = [.nilf] := rfl
@[simp] theorem wr_pure {b : Nat} : (Cfg.wr ⟨0, [], 0⟩ b) = true := by simp [Cfg.wr]
theorem wr_lo {lo b thr : Nat} {ex : List Nat} (hb : lo ≤ b) : (Cfg.wr ⟨lo, ex, thr⟩ b) = true := by simp [Cfg.wr, hb]
@[simp] theorem blockOf_nil {b : Nat} : blockOf [] b = none := rfl
@[simp] theorem isMap_nil : isMap [] = false := rfl
@[simp] theorem isMap_int {k : IntKind} {i : Int} {r : List V} : isMap (.int k i :: r) = false := rfl
@[simp] theorem isMap_bool {b : Bool} {r : List V} : isMap (.bool b :: r) = false := rfl
@[simp] theorem isMap_str {x : ByteArray} {r : List V} : isMap (.str x :: r) = false := rfl
@[simp] theorem isMap_lst {xs : List (List V)} {r : List V} : isMap (.lst xs :: r) = false := rfl
@[simp] theorem isMap_nils {r : List V} : isMap (.nils :: r) = false := rfl
@[simp] theorem isMap_nilp {r : List V} : isMap (.nilp :: r) = false := rfl
@[simp] theorem isMap_sl {a b c d e : Nat} {r : List V} : isMap (.sl a b c d e :: r) = false := rfl
@[simp] theorem isMap_ptr {a b : Nat} {r : List V} : isMap (.ptr a b :: r) = false := rfl
@[simp] theorem isMap_func {f : Fn} {a b r : List V} : isMap (.func f a b :: r) = false := rfl
@[simp] theorem isMap_ints {k : IntKind} {l : List Int} : isMap (l.map (V.int k)) = false := by cases l <;> rfl
@[simp] theorem isMap_bools {l : List Bool} : isMap (l.map V.bool) = false := by cases l <;> rfl
@[simp] theorem isMap_intsA {k : IntKind} {l : List Int} {r : List V} (h : isMap r = false) : isMap (l.map (V.int k) ++ r) = false := by cases l <;> first | exact h | rfl
@[simp] theorem isMap_mp {k e : IntKind} {l : List (Int × Int)} {r : List V} : isMap (.mp k e l :: r) = true := rfl
@[simp] theorem blockOf_zero {cs : List V} {r : Heap} : blockOf (some cs :: r) 0 = if isMap cs then none else some cs := rfl
@[simp] theorem blockOf_succ {x : Option (List V)} {r : Heap} {b : Nat} : blockOf (x :: r) (b + 1) = blockOf r b := by simp [blockOf]
@[simp] theorem blockOf_len {h : Heap} {cs : List V} {r : Heap} : blockOf (h ++ some cs :: r) h.length = if isMap cs then none else some cs := by simp [blockOf]
@[simp] theorem blockOf_len_add {h r : Heap} {k : Nat} : blockOf (h ++ r) (h.length + k) = blockOf r k := by simp [blockOf, List.getElem?_append_right]
@[simp] theorem blockOf_left {h r : Heap} {b : Nat} (hb : b < h.length) : blockOf (h ++ r) b = blockOf h b := by simp [blockOf, List.getElem?_append_left hb]
@[simp] theorem blockOf_set_self {h : Heap} {b : Nat} {cs : List V} (hb : b < h.length) : blockOf (h.set b (some cs)) b = if isMap cs then none else some cs := by simp [blockOf, hb]
@[simp] theorem blockOf_set_ne' {h : Heap} {b c : Nat} {x : Option (List V)} (hb : b ≠ c) : blockOf (h.set b x) c = blockOf h c := by simp [blockOf, List.getElem?_set_ne hb]
theorem blockOf_lt {h : Heap} {b : Nat} {cs : List V} (hb : blockOf h b = some cs) : b < h.length := (List.getElem?_eq_some_iff.1 (live_of_blockOf hb)).1
@[simp] theorem set_len {h r : Heap} {x y : Option (List V)} : (h ++ x :: r).set h.length y = h ++ y :: r := by rw [List.set_append_right _ _ (Nat.le_refl _)]; simp
@[simp] theorem set_len_add {h r : Heap} {y : Option (List V)} {k : Nat} : (h ++ r).set (h.length + k) y = h ++ r.set k y := by rw [List.set_append_right _ _ (by omega)]; simp
@[simp] theorem blockOf_len' {h : Heap} {cs : List V} {r : Heap} {b : Nat} (hb : b = h.length) : blockOf (h ++ some cs :: r) b = if isMap cs then none else some cs := by subst hb; simp
@[simp] theorem set_len' {h r : Heap} {x y : Option (List V)} {b : Nat} (hb : b = h.length) : (h ++ x :: r).set b y = h ++ y :: r := by subst hb; simp
@[simp] theorem set_left {h r : Heap} {y : Option (List V)} {b : Nat} (hb : b < h.length) : (h ++ r).set b y = h.set b y ++ r := List.set_append_left _ _ hb
@[simp] theorem setS_ints {k : IntKind} {l : List Int} {i : Nat} {v : Int} : setS (l.map (V.int k)) i (.int k v) = (l.set i v).map (V.int k) := by simp [setS, List.map_set]
@[simp] theorem slot_ints {k : IntKind} {l : List Int} {i : Nat} : slot (l.map (V.int k)) i = (l[i]?).map (V.int k) := by simp [slot]
@[simp] theorem length_setS {l : List V} {i : Nat} {v : V} : (setS l i v).length = l.length := by simp [setS]
theorem ints_set {k : IntKind} {l : List Int} {i : Nat} {v : Int} : (l.map (V.int k)).set i (.int k v) = (l.set i v).map (V.int k) := by simp [List.map_set]
@[simp] theorem srcCells_lst {xs : List (List V)} : srcCells h s (.lst xs) = if xs.all (fun e => e.length == s) then some (xs.length, xs.flatten) else none := rfl
@[simp] theorem srcCells_nils : srcCells h s .nils = some (0, []) := rfl
def srcO (s off len : Nat) : Option (List V) → Option (Nat × List V)
  | some cs => if off + len * s ≤ cs.length then some (len, (cs.drop off).take (len * s)) else none
  | none => if len = 0 then some (0, []) else none
@[simp] theorem srcO_some {off len : Nat} {cs : List V} : srcO s off len (some cs) = if off + len * s ≤ cs.length then some (len, (cs.drop off).take (len * s)) else none := rfl
@[simp] theorem srcCells_sl {b off len cap : Nat} : srcCells h s (.sl b off len cap s) = srcO s off len (blockOf h b) := by
  simp only [srcCells]; cases blockOf h b with
  | none => rfl
  | some cs => simp
@[simp] theorem evParts_nil {fr : List V} : evParts fr [] = some [] := rfl
@[simp] theorem evParts_cons {fr : List V} {j : Nat} {x : Operand} {r : List (Nat × Operand)} : evParts fr ((j, x) :: r) = (ev fr x).bind fun v => (evParts fr r).map ((j, v) :: ·) := by
  simp only [evParts]
  cases ev fr x with
  | none => rfl
  | some v => cases evParts fr r <;> rfl
@[simp] theorem partsIn_nil {fr : List V} {i : Nat} : partsInOrder fr i [] = some [] := rfl
@[simp] theorem partsIn_cons {fr : List V} {i j : Nat} {x : Operand} {r : List (Nat × Operand)} : partsInOrder fr i ((j, x) :: r) = if i = j then (ev fr x).bind fun v => (partsInOrder fr (i + 1) r).map (v :: ·) else none := by
  simp only [partsInOrder]
  split
  · cases ev fr x with
    | none => rfl
    | some v => cases partsInOrder fr (i + 1) r <;> rfl
  · rfl
theorem buildSlice_eq (hu : P.underlying t = some (.slice e)) (hs : szOf P e = some s) (hz : (zeroOf P e).isSome = true) (hp : decide (0 < s) = true) {len : Nat} {vs : List V} : buildSliceV P h t len vs = (cellsAll s vs).bind fun cs => if vs.length = len && decide (len * s ≤ 16777216) then some (.sl h.length 0 len len s, h ++ [some cs]) else none := by
  simp only [buildSliceV, hu, hs]
  cases cellsAll s vs with
  | none => rfl
  | some cs =>
    simp only [Option.bind_some, hz, hp, Bool.and_true]
@[simp] theorem cellsAll_nil : cellsAll s [] = some [] := rfl
@[simp] theorem cellsAll_cons {v : V} {r : List V} : cellsAll s (v :: r) = (cellsOf v).bind fun cs => if cs.length = s then (cellsAll s r).map (cs ++ ·) else none := by
  simp only [cellsAll]
  cases cellsOf v with
  | none => rfl
  | some cs =>
    simp only [Option.bind_some]
    split
    · cases cellsAll s r <;> rfl
    · rfl
@[simp] theorem fillV_nil {pl : Nat → Option (Nat × Nat)} {cs : List V} : fillV pl cs [] = some cs := rfl
@[simp] theorem fillV_cons {pl : Nat → Option (Nat × Nat)} {cs : List V} {i : Nat} {v : V} {r : List (Nat × V)} : fillV pl cs ((i, v) :: r) = (pl i).bind fun q => (cellsOf v).bind fun vs => if vs.length = q.2 && decide (q.1 + q.2 ≤ cs.length) then fillV pl (putAt cs q.1 vs) r else none := by
  simp only [fillV]
  cases pl i with
  | none => rfl
  | some q =>
    obtain ⟨off, s⟩ := q
    cases cellsOf v with
    | none => rfl
    | some vs => rfl
theorem build_eq {fields : Array Field} {z : List V} {pl : Nat → Option (Nat × Nat)} (hz : zeroOf P t = some (.agg z)) (hu : P.underlying t = some (.struct fields)) (ha : allSized P fields = true) (hpl : ∀ i, placesOf P fields i = pl i) {ps : List (Nat × V)} : buildV P t ps = (fillV pl z ps).map .agg := by
  obtain rfl : placesOf P fields = pl := funext hpl
  simp only [buildV, hz, hu, ha, if_true]
@[simp] theorem binV_add {k : IntKind} {a b : Int} : binV P .add t (.int k a) (.int k b) = intBin .add k a b := by simp [binV]
@[simp] theorem binV_sub {k : IntKind} {a b : Int} : binV P .sub t (.int k a) (.int k b) = intBin .sub k a b := by simp [binV]
@[simp] theorem binV_mul {k : IntKind} {a b : Int} : binV P .mul t (.int k a) (.int k b) = intBin .mul k a b := by simp [binV]
@[simp] theorem binV_quo {k : IntKind} {a b : Int} : binV P .quo t (.int k a) (.int k b) = intBin .quo k a b := by simp [binV]
@[simp] theorem binV_rem {k : IntKind} {a b : Int} : binV P .rem t (.int k a) (.int k b) = intBin .rem k a b := by simp [binV]
@[simp] theorem binV_and {k : IntKind} {a b : Int} : binV P .and t (.int k a) (.int k b) = intBin .and k a b := by simp [binV]
@[simp] theorem binV_or {k : IntKind} {a b : Int} : binV P .or t (.int k a) (.int k b) = intBin .or k a b := by simp [binV]
@[simp] theorem binV_xor {k : IntKind} {a b : Int} : binV P .xor t (.int k a) (.int k b) = intBin .xor k a b := by simp [binV]
@[simp] theorem binV_andNot {k : IntKind} {a b : Int} : binV P .andNot t (.int k a) (.int k b) = intBin .andNot k a b := by simp [binV]
@[simp] theorem binV_eql {k : IntKind} {a b : Int} : binV P .eql t (.int k a) (.int k b) = intBin .eql k a b := by simp [binV]
@[simp] theorem binV_neq {k : IntKind} {a b : Int} : binV P .neq t (.int k a) (.int k b) = intBin .neq k a b := by simp [binV]
@[simp] theorem binV_lss {k : IntKind} {a b : Int} : binV P .lss t (.int k a) (.int k b) = intBin .lss k a b := by simp [binV]
@[simp] theorem binV_leq {k : IntKind} {a b : Int} : binV P .leq t (.int k a) (.int k b) = intBin .leq k a b := by simp [binV]
@[simp] theorem binV_gtr {k : IntKind} {a b : Int} : binV P .gtr t (.int k a) (.int k b) = intBin .gtr k a b := by simp [binV]
@[simp] theorem binV_geq {k : IntKind} {a b : Int} : binV P .geq t (.int k a) (.int k b) = intBin .geq k a b := by simp [binV]
@[simp] theorem binV_shl {k k' : IntKind} {a b : Int} (hb : ¬ b < 0) : binV P .shl t (.int k a) (.int k' b) = some (.int k (k.wrap (a * 2 ^ (min b.toNat k.bits)))) := by simp [binV, hb]
@[simp] theorem binV_shr {k k' : IntKind} {a b : Int} (hb : ¬ b < 0) : binV P .shr t (.int k a) (.int k' b) = some (.int k (a.fdiv (2 ^ (min b.toNat k.bits)))) := by simp [binV, hb]
@[simp] theorem intBin_add {k : IntKind} {a b : Int} : intBin .add k a b = some (.int k (k.wrap (a + b))) := rfl
@[simp] theorem intBin_sub {k : IntKind} {a b : Int} : intBin .sub k a b = some (.int k (k.wrap (a - b))) := rfl
@[simp] theorem intBin_mul {k : IntKind} {a b : Int} : intBin .mul k a b = some (.int k (k.wrap (a * b))) := rfl
@[simp] theorem intBin_quo {k : IntKind} {a b : Int} (hb : ¬ b = 0) : intBin .quo k a b = some (.int k (k.wrap (a.tdiv b))) := by simp [intBin, hb]
@[simp] theorem intBin_rem {k : IntKind} {a b : Int} (hb : ¬ b = 0) : intBin .rem k a b = some (.int k (a.tmod b)) := by simp [intBin, hb]
@[simp] theorem intBin_eql {k : IntKind} {a b : Int} : intBin .eql k a b = some (.bool (decide (a = b))) := by simp [intBin]; rw [Bool.eq_iff_iff]; simp
@[simp] theorem intBin_neq {k : IntKind} {a b : Int} : intBin .neq k a b = some (.bool (!decide (a = b))) := by simp [intBin]; rw [Bool.eq_iff_iff]; simp
@[simp] theorem intBin_lss {k : IntKind} {a b : Int} : intBin .lss k a b = some (.bool (decide (a < b))) := rfl
@[simp] theorem intBin_leq {k : IntKind} {a b : Int} : intBin .leq k a b = some (.bool (decide (a ≤ b))) := rfl
@[simp] theorem intBin_gtr {k : IntKind} {a b : Int} : intBin .gtr k a b = some (.bool (decide (b < a))) := rfl
@[simp] theorem intBin_geq {k : IntKind} {a b : Int} : intBin .geq k a b = some (.bool (decide (b ≤ a))) := rfl
@[simp] theorem unV_not {b : Bool} : unV .not (.bool b) = some (.bool !b) := rfl
@[simp] theorem unV_neg {k : IntKind} {a : Int} : unV .neg (.int k a) = some (.int k (k.wrap (0 - a))) := rfl
@[simp] theorem extractV_tup {vs : List V} {i : Nat} : extractV (.tup vs) i = slot vs i := rfl
@[simp] theorem nilCheckV_ptr {b off : Nat} : nilCheckV (.ptr b off) = some (.ptr b off) := rfl
@[simp] theorem nilCheckV_lptr {cs : List V} {off : Nat} : nilCheckV (.lptr cs off) = some (.lptr cs off) := rfl
@[simp] theorem nilCheckV_func {f : FuncId} {a c : List V} : nilCheckV (.func (.func f) a c) = some (.func (.func f) a c) := rfl
@[simp] theorem get_zero {α : Type} {a : α} {l : List α} : (a :: l)[0]? = some a := rfl
@[simp] theorem toNat_cast_add {a b : Nat} : ((a : Int) + (b : Int)).toNat = a + b := by omega
@[simp] theorem toNat_cast_add_lit {a b : Nat} : ((a : Int) + (no_index (OfNat.ofNat b) : Int)).toNat = a + (no_index (OfNat.ofNat b) : Nat) := by
  show ((a : Int) + (b : Int)).toNat = a + b
  omega
@[simp] theorem cast_eq {a b : Nat} : ((a : Int) = (b : Int)) ↔ a = b := Int.ofNat_inj
theorem wrap64 {x : Int} (h1 : -9223372036854775808 ≤ x) (h2 : x ≤ 9223372036854775807) : IntKind.i64.wrap x = x := by
  have := IntWalk.i64_in x ⟨h1, h2⟩
  exact this
inductive LK where
  | int
  | bool
  | str
def flatK : List LK → List V → List V → Option Bool
  | [], [], [] => some true
  | .int :: ks, .int k a :: x, .int k' b :: y => if k = k' then (if a == b then flatK ks x y else some false) else none
  | .bool :: ks, .bool a :: x, .bool b :: y => if a == b then flatK ks x y else some false
  | .str :: ks, .str a :: x, .str b :: y => if a.toList == b.toList then flatK ks x y else some false
  | _, _, _ => none
def chk (P : Program) : Nat → List Field → List LK → Bool
  | _, [], [] => true
  | i, f :: fs, k :: ks => (f.offset == i) && !(f.name == "_") && (match P.underlying f.type, k with
    | some (.int _), .int => true
    | some .bool, .bool => true
    | some .string, .str => true
    | _, _ => false) && chk P (i + 1) fs ks
  | _, _, _ => false
@[simp] theorem flatK_nil : flatK [] [] [] = some true := rfl
@[simp] theorem flatK_1 {k : IntKind} {a b : Int} : flatK [.int] [.int k a] [.int k b] = some (decide (a = b)) := by
  by_cases h : a = b <;> simp [flatK, h]
@[simp] theorem flatK_2 {k k2 : IntKind} {a b a2 b2 : Int} : flatK [.int, .int] [.int k a, .int k2 a2] [.int k b, .int k2 b2] = some (decide (a = b) && decide (a2 = b2)) := by
  by_cases h : a = b <;> by_cases h2 : a2 = b2 <;> simp [flatK, h, h2]
@[simp] theorem flatK_3 {k k2 k3 : IntKind} {a b a2 b2 a3 b3 : Int} : flatK [.int, .int, .int] [.int k a, .int k2 a2, .int k3 a3] [.int k b, .int k2 b2, .int k3 b3] = some (decide (a = b) && (decide (a2 = b2) && decide (a3 = b3))) := by
  by_cases h : a = b <;> by_cases h2 : a2 = b2 <;> by_cases h3 : a3 = b3 <;> simp [flatK, h, h2, h3]
@[simp] theorem flatK_4 {k k2 k3 k4 : IntKind} {a b a2 b2 a3 b3 a4 b4 : Int} : flatK [.int, .int, .int, .int] [.int k a, .int k2 a2, .int k3 a3, .int k4 a4] [.int k b, .int k2 b2, .int k3 b3, .int k4 b4] = some (decide (a = b) && (decide (a2 = b2) && (decide (a3 = b3) && decide (a4 = b4)))) := by
  by_cases h : a = b <;> by_cases h2 : a2 = b2 <;> by_cases h3 : a3 = b3 <;> by_cases h4 : a4 = b4 <;> simp [flatK, h, h2, h3, h4]
@[simp] theorem binV_eqAgg {xs ys : List V} : binV P .eql t (.agg xs) (.agg ys) = (eqV P t (.agg xs) (.agg ys)).map .bool := by
  simp only [binV]; cases eqV P t (.agg xs) (.agg ys) <;> rfl
@[simp] theorem binV_neqAgg {xs ys : List V} : binV P .neq t (.agg xs) (.agg ys) = (eqV P t (.agg xs) (.agg ys)).map fun b => .bool !b := by
  simp only [binV]; cases eqV P t (.agg xs) (.agg ys) <;> rfl
@[simp] theorem binV_eqBool {a b : Bool} : binV P .eql t (.bool a) (.bool b) = (eqV P t (.bool a) (.bool b)).map .bool := by
  simp only [binV]; cases eqV P t (.bool a) (.bool b) <;> rfl
@[simp] theorem binV_neqBool {a b : Bool} : binV P .neq t (.bool a) (.bool b) = (eqV P t (.bool a) (.bool b)).map fun b => .bool !b := by
  simp only [binV]; cases eqV P t (.bool a) (.bool b) <;> rfl
@[simp] theorem frz_int {n d : Nat} {k : IntKind} {i : Int} : frz h n (d + 1) (.int k i) = some (.int k i) := rfl
@[simp] theorem frz_bool {n d : Nat} {b : Bool} : frz h n (d + 1) (.bool b) = some (.bool b) := rfl
@[simp] theorem frz_str {n d : Nat} {x : ByteArray} : frz h n (d + 1) (.str x) = some (.str x) := rfl
@[simp] theorem frz_lst {n d : Nat} {xs : List (List V)} : frz h n (d + 1) (.lst xs) = some (.lst xs) := rfl
@[simp] theorem frz_nils {n d : Nat} : frz h n (d + 1) .nils = some (.lst []) := rfl
@[simp] theorem frz_nilp {n d : Nat} : frz h n (d + 1) .nilp = some .nilp := rfl
@[simp] theorem frz_no {n d : Nat} : frz h n (d + 1) .no = some .no := rfl
@[simp] theorem frz_agg {n d : Nat} {cs : List V} : frz h n (d + 1) (.agg cs) = (cs.mapM (frz h n d)).map .agg := by
  simp only [frz]; cases cs.mapM (frz h n d) <;> rfl
@[simp] theorem frz_tup {n d : Nat} {cs : List V} : frz h n (d + 1) (.tup cs) = (cs.mapM (frz h n d)).map .tup := by
  simp only [frz]; cases cs.mapM (frz h n d) <;> rfl
theorem mapM_frz_ints {n d : Nat} {k : IntKind} : ∀ (l : List Int), (l.map (V.int k)).mapM (frz h n (d + 1)) = some (l.map (V.int k))
  | [] => rfl
  | x :: l => by simp [List.mapM_cons, mapM_frz_ints l]
theorem chunk_one : ∀ (l : List V), chunk 1 l.length l = l.map fun v => [v]
  | [] => rfl
  | x :: l => by simp [chunk, chunk_one l]
theorem frz_sl {n d b off len cap k : Nat} : frz h n (d + 1) (.sl b off len cap k) = if b < n then some (.sl b off len cap k)
      else match blockOf h b with
        | some cs => if off + len * k ≤ cs.length then
            match ((cs.drop off).take (len * k)).mapM (frz h n d) with
            | some cs' => if cs'.all V.rf then some (.lst (chunk k len cs')) else none
            | none => none
          else none
        | none => none := by simp only [frz]; rfl
theorem frz_ints {n d b len cap : Nat} {k : IntKind} {l : List Int} (hb : blockOf h b = some (l.map (V.int k))) (hn : n ≤ b) (hl : l.length = len) : frz h n (d + 2) (.sl b 0 len cap 1) = some (.lst (l.map fun x => [.int k x])) := by
  subst hl
  have e : ¬ b < n := by omega
  have e2 : List.take (l.length * 1) (l.map (V.int k)) = l.map (V.int k) := List.take_of_length_le (by simp)
  have e3 : chunk 1 l.length (l.map (V.int k)) = l.map fun x => [V.int k x] := by
    have := chunk_one (l.map (V.int k))
    simp only [List.length_map, List.map_map] at this
    exact this
  have e4 : (l.map (V.int k)).all V.rf = true := by simp [List.all_eq_true]
  rw [frz_sl]
  simp only [e, if_false, hb, List.drop_zero, e2, mapM_frz_ints, e3, e4, if_true]
  rw [if_pos (by simp)]
end
end Go.Ab
