/- The evaluator's runs as predicates that simp goes through, one operation after the other. -/
import Derived.Test.YtcedojbifnangaaAbTop
namespace Go.Ab

abbrev Kont := Ex → List V → Heap → Prop

/-- A frame's slot, under a name of its own: simp goes to it by two rules. -/
def slot {α : Type} (l : List α) (t : Nat) : Option α := l[t]?
def setS (l : List V) (d : Nat) (v : V) : List V := l.set d v
theorem slot_def {α : Type} {l : List α} {t : Nat} : slot l t = l[t]? := rfl
@[simp] theorem slot_zero {α : Type} {a : α} {l : List α} : slot (a :: l) 0 = some a := rfl
@[simp] theorem slot_succ {α : Type} {a : α} {l : List α} {t : Nat} : slot (a :: l) (t + 1) = slot l t := by simp [slot]
@[simp] theorem slot_nil {α : Type} {t : Nat} : slot ([] : List α) t = none := rfl
@[simp] theorem setS_zero {a v : V} {l : List V} : setS (a :: l) 0 v = v :: l := rfl
@[simp] theorem setS_succ {a v : V} {l : List V} {t : Nat} : setS (a :: l) (t + 1) v = a :: setS l t v := rfl

/-- What simp is not to look into. -/
class Hid (α : Type) where
  val : α

abbrev KontO := List V → Heap → Prop

section
variable (P : Program) (md : FuncId → Nat) (call : Callf) (cfg : Cfg) (n : Nat)

def wC [c : Hid Code] (fr : List V) (h : Heap) [Q : Hid Kont] : Prop := ∃ st, code P md call (drawR P md call) cfg n c.val fr h = some st ∧ Q.val st.1 st.2.1 st.2.2

def wO [ops : Hid (Array Oper)] [l : Hid (List Oper)] (fr : List V) (h : Heap) [Q : Hid KontO] : Prop := ∃ st, runOps P md call cfg ops.val l.val fr h = some st ∧ Q.val st.1 st.2

def wS [dst : Hid (Option Tmp)] [fr : Hid (List V)] (r : Option (V × Heap)) [ops : Hid (Array Oper)] [l : Hid (List Oper)] [Q : Hid KontO] : Prop :=
  ∃ x, r = some x ∧ @wO P md call cfg ops l (put fr.val dst.val x.1) x.2 Q

def wIf (b : Bool) [A : Hid Prop] [B : Hid Prop] : Prop := if b = true then A.val else B.val

def gdOf (ops : Array Oper) (fr : List V) (j : Nat) : Option V :=
  match ops[j]? with
  | some p => match p.dst with
    | some d => fr[d]?
    | none => none
  | none => none

def wG (g : Option V) [want : Hid Bool] [dst : Hid (Option Tmp)] [op : Hid Op] [ops : Hid (Array Oper)] [l : Hid (List Oper)] [fr : Hid (List V)] [h : Hid Heap] [Q : Hid KontO] : Prop :=
  match g with
  | some (.bool b) => @wIf (b == want.val) ⟨@wS P md call cfg dst fr (opEv P md call cfg fr.val h.val op.val) ops l Q⟩ ⟨@wO P md call cfg ops l (put fr.val dst.val .no) h.val Q⟩
  | some .no => @wO P md call cfg ops l (put fr.val dst.val .no) h.val Q
  | _ => False

def wB (c : Option V) [t : Hid Code] [e : Hid Code] [fr : Hid (List V)] [h : Hid Heap] [Q : Hid Kont] : Prop :=
  match c with
  | some (.bool b) => @wIf b ⟨@wC P md call cfg n t fr.val h.val Q⟩ ⟨@wC P md call cfg n e fr.val h.val Q⟩
  | _ => False

def kSeq [b : Hid Code] [Q : Hid Kont] (e : Ex) (fr : List V) (h : Heap) : Prop :=
  match e with
  | .normal => @wC P md call cfg n b fr h Q
  | e => Q.val e fr h

def kBlock [id : Hid Nat] [Q : Hid Kont] (e : Ex) (fr : List V) (h : Heap) : Prop :=
  match e with
  | .exit i => Q.val (if i = id.val then .normal else .exit i) fr h
  | e => Q.val e fr h

/-- The round's end: what is to be shown. -/
def Rnd [I : Hid (Nat → List V → Heap → Prop)] [m : Hid Nat] (fr : List V) (h : Heap) : Prop := ∃ m', m' < m.val ∧ I.val m' fr h

def kLoop [I : Hid (Nat → List V → Heap → Prop)] [m : Hid Nat] [Q : Hid Kont] (e : Ex) (fr : List V) (h : Heap) : Prop :=
  match e with
  | .normal => @Rnd I m fr h
  | e => Q.val e fr h
end

section
variable {P : Program} {md : FuncId → Nat} {call : Callf} {cfg : Cfg} {n : Nat}

@[simp] theorem wIf_true {A B : Prop} : @wIf true ⟨A⟩ ⟨B⟩ ↔ A := by simp [wIf]
@[simp] theorem wIf_false {A B : Prop} : @wIf false ⟨A⟩ ⟨B⟩ ↔ B := by simp [wIf]
theorem wIf_intro {b : Bool} {A B : Prop} (ha : b = true → A) (hb : b = false → B) : @wIf b ⟨A⟩ ⟨B⟩ := by cases b <;> simp_all

@[simp] theorem kSeq_normal {b : Code} {Q : Kont} {fr : List V} {h : Heap} : @kSeq P md call cfg n ⟨b⟩ ⟨Q⟩ .normal fr h ↔ @wC P md call cfg n ⟨b⟩ fr h ⟨Q⟩ := Iff.rfl
@[simp] theorem kSeq_exit {b : Code} {Q : Kont} {i : Nat} {fr : List V} {h : Heap} : @kSeq P md call cfg n ⟨b⟩ ⟨Q⟩ (.exit i) fr h ↔ Q (.exit i) fr h := Iff.rfl
@[simp] theorem kSeq_ret {b : Code} {Q : Kont} {fr : List V} {h : Heap} : @kSeq P md call cfg n ⟨b⟩ ⟨Q⟩ .ret fr h ↔ Q .ret fr h := Iff.rfl
@[simp] theorem kBlock_normal {id : Nat} {Q : Kont} {fr : List V} {h : Heap} : @kBlock ⟨id⟩ ⟨Q⟩ .normal fr h ↔ Q .normal fr h := Iff.rfl
@[simp] theorem kBlock_exit {id i : Nat} {Q : Kont} {fr : List V} {h : Heap} : @kBlock ⟨id⟩ ⟨Q⟩ (.exit i) fr h ↔ Q (if i = id then .normal else .exit i) fr h := Iff.rfl
@[simp] theorem kBlock_ret {id : Nat} {Q : Kont} {fr : List V} {h : Heap} : @kBlock ⟨id⟩ ⟨Q⟩ .ret fr h ↔ Q .ret fr h := Iff.rfl
@[simp] theorem kLoop_normal {I : Nat → List V → Heap → Prop} {m : Nat} {Q : Kont} {fr : List V} {h : Heap} : @kLoop ⟨I⟩ ⟨m⟩ ⟨Q⟩ .normal fr h ↔ @Rnd ⟨I⟩ ⟨m⟩ fr h := Iff.rfl
theorem Rnd_of {I : Nat → List V → Heap → Prop} {m : Nat} {fr : List V} {h : Heap} {m' : Nat} (h1 : m' < m) (h2 : I m' fr h) : @Rnd ⟨I⟩ ⟨m⟩ fr h := ⟨m', h1, h2⟩
@[simp] theorem kLoop_exit {I : Nat → List V → Heap → Prop} {m : Nat} {Q : Kont} {i : Nat} {fr : List V} {h : Heap} : @kLoop ⟨I⟩ ⟨m⟩ ⟨Q⟩ (.exit i) fr h ↔ Q (.exit i) fr h := Iff.rfl
@[simp] theorem kLoop_ret {I : Nat → List V → Heap → Prop} {m : Nat} {Q : Kont} {fr : List V} {h : Heap} : @kLoop ⟨I⟩ ⟨m⟩ ⟨Q⟩ .ret fr h ↔ Q .ret fr h := Iff.rfl

@[simp] theorem wC_skip {fr : List V} {h : Heap} {Q : Kont} : @wC P md call cfg n ⟨.skip⟩ fr h ⟨Q⟩ ↔ Q .normal fr h := by simp [wC, code]
@[simp] theorem wC_exit {id : Nat} {fr : List V} {h : Heap} {Q : Kont} : @wC P md call cfg n ⟨.exit id⟩ fr h ⟨Q⟩ ↔ Q (.exit id) fr h := by simp [wC, code]
@[simp] theorem wC_ret {fr : List V} {h : Heap} {Q : Kont} : @wC P md call cfg n ⟨.ret⟩ fr h ⟨Q⟩ ↔ Q .ret fr h := by simp [wC, code]

@[simp] theorem wC_seq {a b : Code} {fr : List V} {h : Heap} {Q : Kont} : @wC P md call cfg n ⟨.seq a b⟩ fr h ⟨Q⟩ ↔ @wC P md call cfg n ⟨a⟩ fr h ⟨@kSeq P md call cfg n ⟨b⟩ ⟨Q⟩⟩ := by
  unfold wC
  simp only [code]
  cases ha : code P md call (drawR P md call) cfg n a fr h with
  | none => simp
  | some st =>
    obtain ⟨e, fr', h'⟩ := st
    cases e <;> simp [kSeq, wC]

@[simp] theorem wC_block {id : Nat} {b : Code} {fr : List V} {h : Heap} {Q : Kont} : @wC P md call cfg n ⟨.block id b⟩ fr h ⟨Q⟩ ↔ @wC P md call cfg n ⟨b⟩ fr h ⟨@kBlock ⟨id⟩ ⟨Q⟩⟩ := by
  unfold wC
  simp only [code]
  cases ha : code P md call (drawR P md call) cfg n b fr h with
  | none => simp
  | some st =>
    obtain ⟨e, fr', h'⟩ := st
    cases e <;> simp [kBlock]

@[simp] theorem wC_cond {c : Operand} {t e : Code} {fr : List V} {h : Heap} {Q : Kont} : @wC P md call cfg n ⟨.cond c t e⟩ fr h ⟨Q⟩ ↔ @wB P md call cfg n (ev fr c) ⟨t⟩ ⟨e⟩ ⟨fr⟩ ⟨h⟩ ⟨Q⟩ := by
  unfold wC
  simp only [code, wB]
  split <;> rename_i hc
  · simp [wIf, wC, hc]
  · simp [wIf, wC, hc]
  · rename_i h1
    split
    · rename_i b hb
      cases b
      · exact absurd hb hc
      · exact absurd hb h1
    · simp

@[simp] theorem wB_bool {b : Bool} {t e : Code} {fr : List V} {h : Heap} {Q : Kont} : @wB P md call cfg n (some (.bool b)) ⟨t⟩ ⟨e⟩ ⟨fr⟩ ⟨h⟩ ⟨Q⟩ ↔ @wIf b ⟨@wC P md call cfg n ⟨t⟩ fr h ⟨Q⟩⟩ ⟨@wC P md call cfg n ⟨e⟩ fr h ⟨Q⟩⟩ := Iff.rfl

@[simp] theorem wC_region {id : Nat} {ops : Array Oper} {fr : List V} {h : Heap} {Q : Kont} : @wC P md call cfg n ⟨.region id ops false⟩ fr h ⟨Q⟩ ↔ @wO P md call cfg ⟨ops⟩ ⟨ops.toList⟩ fr h ⟨Q .normal⟩ := by
  unfold wC wO
  simp only [code]
  cases ha : runOps P md call cfg ops ops.toList fr h with
  | none => simp
  | some st => obtain ⟨fr', h'⟩ := st; simp

@[simp] theorem wO_list {ops : Array Oper} {l : List Oper} {fr : List V} {h : Heap} {Q : KontO} : @wO P md call cfg ⟨ops⟩ ⟨l.toArray.toList⟩ fr h ⟨Q⟩ ↔ @wO P md call cfg ⟨ops⟩ ⟨l⟩ fr h ⟨Q⟩ := Iff.rfl
@[simp] theorem wO_nil {ops : Array Oper} {fr : List V} {h : Heap} {Q : KontO} : @wO P md call cfg ⟨ops⟩ ⟨[]⟩ fr h ⟨Q⟩ ↔ Q fr h := by simp [wO, runOps]

@[simp] theorem wO_cons {ops : Array Oper} {dst : Option Tmp} {op : Op} {ty : TypeId} {pos : String} {after : Array Edge} {l : List Oper} {fr : List V} {h : Heap} {Q : KontO} :
    @wO P md call cfg ⟨ops⟩ ⟨{ dst := dst, op := op, type := ty, pos := pos, after := after, guard := none } :: l⟩ fr h ⟨Q⟩ ↔ @wS P md call cfg ⟨dst⟩ ⟨fr⟩ (opEv P md call cfg fr h op) ⟨ops⟩ ⟨l⟩ ⟨Q⟩ := by
  unfold wO wS
  simp only [runOps, stepOp, wantd]
  cases ha : opEv P md call cfg fr h op with
  | none => simp
  | some x => obtain ⟨v, h'⟩ := x; simp [wO]

@[simp] theorem wO_guard {ops : Array Oper} {dst : Option Tmp} {op : Op} {ty : TypeId} {pos : String} {after : Array Edge} {j : Nat} {want : Bool} {l : List Oper} {fr : List V} {h : Heap} {Q : KontO} :
    @wO P md call cfg ⟨ops⟩ ⟨{ dst := dst, op := op, type := ty, pos := pos, after := after, guard := some (j, want) } :: l⟩ fr h ⟨Q⟩ ↔ @wG P md call cfg (gdOf ops fr j) ⟨want⟩ ⟨dst⟩ ⟨op⟩ ⟨ops⟩ ⟨l⟩ ⟨fr⟩ ⟨h⟩ ⟨Q⟩ := by
  unfold wO wG gdOf
  simp only [runOps, stepOp, wantd]
  cases hj : ops[j]? with
  | none => simp
  | some p =>
    cases hd : p.dst with
    | none => simp [hd]
    | some d =>
      simp only [hd]
      cases hf : fr[d]? with
      | none => simp
      | some v =>
        cases v <;> simp only [reduceCtorEq, false_and, exists_false]
        · simp [wO]
        · rename_i b
          cases hbw : (b == want) <;> simp only [wIf, wS, wO, if_true, Bool.false_eq_true, if_false]
          cases ha : opEv P md call cfg fr h op with
          | none => simp
          | some x => obtain ⟨v, h'⟩ := x; simp

@[simp] theorem wG_bool {b want : Bool} {dst : Option Tmp} {op : Op} {ops : Array Oper} {l : List Oper} {fr : List V} {h : Heap} {Q : KontO} :
    @wG P md call cfg (some (.bool b)) ⟨want⟩ ⟨dst⟩ ⟨op⟩ ⟨ops⟩ ⟨l⟩ ⟨fr⟩ ⟨h⟩ ⟨Q⟩ ↔ @wIf (b == want) ⟨@wS P md call cfg ⟨dst⟩ ⟨fr⟩ (opEv P md call cfg fr h op) ⟨ops⟩ ⟨l⟩ ⟨Q⟩⟩ ⟨@wO P md call cfg ⟨ops⟩ ⟨l⟩ (put fr dst .no) h ⟨Q⟩⟩ := Iff.rfl
@[simp] theorem wG_no {want : Bool} {dst : Option Tmp} {op : Op} {ops : Array Oper} {l : List Oper} {fr : List V} {h : Heap} {Q : KontO} :
    @wG P md call cfg (some .no) ⟨want⟩ ⟨dst⟩ ⟨op⟩ ⟨ops⟩ ⟨l⟩ ⟨fr⟩ ⟨h⟩ ⟨Q⟩ ↔ @wO P md call cfg ⟨ops⟩ ⟨l⟩ (put fr dst .no) h ⟨Q⟩ := Iff.rfl

@[simp] theorem wS_some {dst : Option Tmp} {fr : List V} {v : V} {h : Heap} {ops : Array Oper} {l : List Oper} {Q : KontO} :
    @wS P md call cfg ⟨dst⟩ ⟨fr⟩ (some (v, h)) ⟨ops⟩ ⟨l⟩ ⟨Q⟩ ↔ @wO P md call cfg ⟨ops⟩ ⟨l⟩ (put fr dst v) h ⟨Q⟩ := by simp [wS]

@[simp] theorem put_none {fr : List V} {v : V} : put fr none v = fr := rfl
@[simp] theorem put_some {fr : List V} {d : Tmp} {v : V} : put fr (some d) v = setS fr d v := rfl
@[simp] theorem gdOf_mk {ops : Array Oper} {fr : List V} {j : Nat} : gdOf ops fr j = ((slot ops.toList j).bind (·.dst)).bind (slot fr ·) := by
  unfold gdOf
  simp only [slot, Array.getElem?_toList]
  cases h : ops[j]? with
  | none => simp
  | some p => cases hd : p.dst <;> simp [hd]

@[simp] theorem ev_tmp {fr : List V} {t : Tmp} : ev fr (.tmp t) = slot fr t := rfl
@[simp] theorem ev_func {fr : List V} {f : FuncId} : ev fr (.func f) = some (.func (.func f) [] []) := rfl
@[simp] theorem ev_int {fr : List V} {k : IntKind} {i : Int} : ev fr (.const (.int k i)) = some (.int k i) := rfl
@[simp] theorem ev_bool {fr : List V} {b : Bool} : ev fr (.const (.bool b)) = some (.bool b) := rfl
@[simp] theorem ev_str {fr : List V} {s : ByteArray} : ev fr (.const (.string s)) = some (.str s) := rfl
@[simp] theorem ev_nils {fr : List V} : ev fr (.const (.slice none 0 0)) = some .nils := rfl
@[simp] theorem ev_agg {fr : List V} {cs : Array Value} : ev fr (.const (.agg cs)) = (cs.toList.mapM ofLeaf).map .agg := rfl
@[simp] theorem evAll_nil {fr : List V} : evAll fr [] = some [] := rfl
@[simp] theorem evAll_cons {fr : List V} {x : Operand} {r : List Operand} : evAll fr (x :: r) = (ev fr x).bind fun v => (evAll fr r).map (v :: ·) := by
  simp only [evAll]
  cases ev fr x <;> simp
  cases evAll fr r <;> simp

@[simp] theorem opEv_move {fr : List V} {h : Heap} {x : Operand} : opEv P md call cfg fr h (.move x) = (ev fr x).map (·, h) := rfl
@[simp] theorem opEv_assign {fr : List V} {h : Heap} {x : Operand} : opEv P md call cfg fr h (.assign x) = (ev fr x).map (·, h) := rfl
def pickV (c a b : Option V) (h : Heap) : Option (V × Heap) :=
  match c with
  | some (.bool true) => a.map (·, h)
  | some (.bool false) => b.map (·, h)
  | _ => none
@[simp] theorem opEv_pick {fr : List V} {h : Heap} {c a b : Operand} : opEv P md call cfg fr h (.pick c a b) = pickV (ev fr c) (ev fr a) (ev fr b) h := rfl
@[simp] theorem pickV_true {a b : Option V} {h : Heap} : pickV (some (.bool true)) a b h = a.map (·, h) := rfl
@[simp] theorem pickV_false {a b : Option V} {h : Heap} : pickV (some (.bool false)) a b h = b.map (·, h) := rfl
@[simp] theorem pickV_and {x y : Bool} {h : Heap} : pickV (some (.bool x)) (some (.bool y)) (some (.bool false)) h = some (.bool (x && y), h) := by cases x <;> rfl
@[simp] theorem pickV_or {x y : Bool} {h : Heap} : pickV (some (.bool x)) (some (.bool true)) (some (.bool y)) h = some (.bool (x || y), h) := by cases x <;> rfl
@[simp] theorem opEv_alloc {fr : List V} {h : Heap} {t : TypeId} : opEv P md call cfg fr h (.alloc t) = (zeroOf P t).map fun z => (.ptr h.length 0, h ++ [some (vcells z)]) := by
  simp only [opEv, opV]; cases zeroOf P t <;> rfl
@[simp] theorem opEv_box {fr : List V} {h : Heap} {t : TypeId} {x : Operand} : opEv P md call cfg fr h (.box t x) = ((ev fr x).bind cellsOf).map fun cs => (.ptr h.length 0, h ++ [some cs]) := by
  simp only [opEv, opV]
  cases ev fr x with
  | none => rfl
  | some v => simp only [Option.bind_some]; cases cellsOf v <;> rfl
@[simp] theorem opEv_build {fr : List V} {h : Heap} {t : TypeId} {ps : Array (Nat × Operand)} : opEv P md call cfg fr h (.build t ps) = ((evParts fr ps.toList).bind (buildV P t)).map (·, h) := by
  simp only [opEv, opV]; cases evParts fr ps.toList <;> rfl
@[simp] theorem opEv_buildSlice {fr : List V} {h : Heap} {t : TypeId} {len : Nat} {ps : Array (Nat × Operand)} : opEv P md call cfg fr h (.buildSlice t len ps) = (partsInOrder fr 0 ps.toList).bind (buildSliceV P h t len) := by
  simp only [opEv, opV]; cases partsInOrder fr 0 ps.toList <;> rfl
@[simp] theorem opEv_load {fr : List V} {h : Heap} {t : TypeId} {a : Operand} : opEv P md call cfg fr h (.load t a) = ((ev fr a).bind (loadV P h t)).map (·, h) := by
  simp only [opEv, opV]; cases ev fr a <;> rfl
@[simp] theorem opEv_store {fr : List V} {h : Heap} {t : TypeId} {a x : Operand} : opEv P md call cfg fr h (.store t a x) = ((ev fr a).bind fun p => (ev fr x).bind fun v => storeV P cfg h t p v).map (.no, ·) := by
  simp only [opEv, opV]
  cases ev fr a with
  | none => rfl
  | some p => cases ev fr x with
    | none => rfl
    | some v => simp only [Option.bind_some]; cases storeV P cfg h t p v <;> rfl
@[simp] theorem opEv_nilCheck {fr : List V} {h : Heap} {x : Operand} : opEv P md call cfg fr h (.nilCheck x) = ((ev fr x).bind nilCheckV).map (·, h) := by
  simp only [opEv, opV]; cases ev fr x <;> rfl
@[simp] theorem opEv_binOp {fr : List V} {h : Heap} {op : BinOp} {t u : TypeId} {x y : Operand} : opEv P md call cfg fr h (.binOp op t x y u) = ((ev fr x).bind fun a => (ev fr y).bind fun b => binV P op t a b).map (·, h) := by
  simp only [opEv, opV]
  cases ev fr x with
  | none => rfl
  | some p => cases ev fr y with
    | none => rfl
    | some v => rfl
@[simp] theorem opEv_unOp {fr : List V} {h : Heap} {op : UnOp} {t : TypeId} {x : Operand} : opEv P md call cfg fr h (.unOp op t x) = ((ev fr x).bind (unV op)).map (·, h) := by
  simp only [opEv, opV]; cases ev fr x <;> rfl
@[simp] theorem opEv_convert {fr : List V} {h : Heap} {s d : TypeId} {x : Operand} : opEv P md call cfg fr h (.convert s d x) = (ev fr x).bind (convV P h s d) := by
  simp only [opEv, opV]; cases ev fr x <;> rfl
@[simp] theorem opEv_makeFunc {fr : List V} {h : Heap} {fn : Fn} {a c : Array Operand} : opEv P md call cfg fr h (.makeFunc fn a c) = (evAll fr a.toList).bind fun f => (evAll fr c.toList).map fun c => (.func fn f c, h) := by
  simp only [opEv, opV]
  cases evAll fr a.toList with
  | none => rfl
  | some p => cases evAll fr c.toList <;> rfl
@[simp] theorem opEv_makeSlice {fr : List V} {h : Heap} {t : TypeId} {l c : Operand} : opEv P md call cfg fr h (.makeSlice t l c) = (ev fr l).bind fun a => (ev fr c).bind fun b => makeSliceV P h t a b := by
  simp only [opEv, opV]
  cases ev fr l with
  | none => rfl
  | some p => cases ev fr c <;> rfl
@[simp] theorem opEv_slice {fr : List V} {h : Heap} {t : TypeId} {x : Operand} {lo hi : Option Operand} : opEv P md call cfg fr h (.slice t x lo hi none) = ((ev fr x).bind fun a => sliceV P h t a (lo.map (ev fr)) (hi.map (ev fr))).map (·, h) := by
  simp only [opEv, opV]; cases ev fr x <;> rfl
@[simp] theorem opEv_fieldAddr {fr : List V} {h : Heap} {s : TypeId} {x : Operand} {f : Nat} : opEv P md call cfg fr h (.fieldAddr s x f) = ((ev fr x).bind fun a => fieldAddrV P s a f).map (·, h) := by
  simp only [opEv, opV]; cases ev fr x <;> rfl
@[simp] theorem opEv_field {fr : List V} {h : Heap} {s : TypeId} {x : Operand} {f : Nat} : opEv P md call cfg fr h (.field s x f) = ((ev fr x).bind fun a => fieldV P s a f).map (·, h) := by
  simp only [opEv, opV]; cases ev fr x <;> rfl
@[simp] theorem opEv_indexAddr {fr : List V} {h : Heap} {t : TypeId} {x i : Operand} : opEv P md call cfg fr h (.indexAddr t x i) = ((ev fr x).bind fun a => (ev fr i).bind fun b => indexAddrV P t a b).map (·, h) := by
  simp only [opEv, opV]
  cases ev fr x with
  | none => rfl
  | some p => cases ev fr i <;> rfl
@[simp] theorem opEv_index {fr : List V} {h : Heap} {t : TypeId} {x i : Operand} : opEv P md call cfg fr h (.index t x i) = ((ev fr x).bind fun a => (ev fr i).bind fun b => indexV P t a b).map (·, h) := by
  simp only [opEv, opV]
  cases ev fr x with
  | none => rfl
  | some p => cases ev fr i <;> rfl
@[simp] theorem opEv_extract {fr : List V} {h : Heap} {x : Operand} {i : Nat} : opEv P md call cfg fr h (.extract x i) = ((ev fr x).bind fun a => extractV a i).map (·, h) := by
  simp only [opEv, opV]; cases ev fr x <;> rfl

def biV (P : Program) (cfg : Cfg) (h : Heap) (b : Builtin) (tys : List TypeId) (vs : List V) : Option (V × Heap) :=
  match b, tys, vs with
  | .len, [t], [x] => (lenV P t x).map (·, h)
  | .append, [t, u], [d, x] => appendV P cfg h t u d x
  | .min, _, vs => (minV vs).map (·, h)
  | .max, _, vs => (maxV vs).map (·, h)
  | .clear, [t], [x] => (clearV P cfg h t x).map (.tup [], ·)
  | _, _, _ => none
@[simp] theorem opEv_builtin {fr : List V} {h : Heap} {b : Builtin} {args : Array Operand} {tys : Array TypeId} : opEv P md call cfg fr h (.call { callee := .builtin b, args := args, argTypes := tys }) = (evAll fr args.toList).bind (biV P cfg h b tys.toList) := by
  simp only [opEv, opV]
  cases evAll fr args.toList with
  | none => rfl
  | some vs =>
    simp only [Option.bind_some, biV]
    generalize tys.toList = tl
    rcases tl with _ | ⟨t, _ | ⟨u, _ | ⟨_, _⟩⟩⟩ <;> rcases vs with _ | ⟨x, _ | ⟨y, _ | ⟨_, _⟩⟩⟩ <;> cases b <;> first | rfl | (simp only []; cases clearV P cfg h t x <;> rfl) | (simp only; cases clearV P cfg h t x <;> rfl)
@[simp] theorem biV_len {h : Heap} {t : TypeId} {x : V} : biV P cfg h .len [t] [x] = (lenV P t x).map (·, h) := rfl
@[simp] theorem biV_append {h : Heap} {t u : TypeId} {d x : V} : biV P cfg h .append [t, u] [d, x] = appendV P cfg h t u d x := rfl
@[simp] theorem biV_min {h : Heap} {ts : List TypeId} {vs : List V} : biV P cfg h .min ts vs = (minV vs).map (·, h) := by unfold biV; split <;> simp_all
@[simp] theorem biV_max {h : Heap} {ts : List TypeId} {vs : List V} : biV P cfg h .max ts vs = (maxV vs).map (·, h) := by unfold biV; split <;> simp_all
@[simp] theorem biV_clear {h : Heap} {t : TypeId} {x : V} : biV P cfg h .clear [t] [x] = (clearV P cfg h t x).map (.tup [], ·) := rfl

def callOf (md : FuncId → Nat) (call : Callf) (cfg : Cfg) (h : Heap) (f : Option V) (vs : Option (List V)) : Option (V × Heap) :=
  match f, vs with
  | some (.func (.func g) first captured), some vs => callM md call cfg g ((first ++ vs) ++ captured) h
  | _, _ => none
@[simp] theorem opEv_call {fr : List V} {h : Heap} {f : Operand} {args : Array Operand} {tys : Array TypeId} : opEv P md call cfg fr h (.call { callee := .value f, args := args, argTypes := tys }) = callOf md call cfg h (ev fr f) (evAll fr args.toList) := rfl
@[simp] theorem callOf_some {h : Heap} {g : FuncId} {first captured vs : List V} : callOf md call cfg h (some (.func (.func g) first captured)) (some vs) = callM md call cfg g ((first ++ vs) ++ captured) h := rfl

/-- A loop: what holds at each round's head, with a number that goes down. -/
theorem wC_loop {body : Code} {fr : List V} {h : Heap} {Q : Kont} (I : Nat → List V → Heap → Prop) {m : Nat} (hm : m < n) (h0 : I m fr h)
    (step : ∀ m fr h, I m fr h → @wC P md call cfg n ⟨body⟩ fr h ⟨@kLoop ⟨I⟩ ⟨m⟩ ⟨Q⟩⟩) : @wC P md call cfg n ⟨.loop body⟩ fr h ⟨Q⟩ := by
  have key : ∀ k m fr h, m < k → I m fr h → ∃ st, iter (code P md call (drawR P md call) cfg n body) k fr h = some st ∧ Q st.1 st.2.1 st.2.2 := by
    intro k
    induction k with
    | zero => intro m fr h hm; omega
    | succ k ih =>
      intro m fr h hm hI
      obtain ⟨⟨e, fr', h'⟩, hst, hq⟩ := step m fr h hI
      replace hst : code P md call (drawR P md call) cfg n body fr h = some (e, fr', h') := hst
      simp only [iter, hst]
      cases e with
      | normal =>
        obtain ⟨m', hm', hI'⟩ := hq
        replace hm' : m' < m := hm'
        exact ih m' fr' h' (by omega) hI'
      | exit i => exact ⟨_, rfl, hq⟩
      | ret => exact ⟨_, rfl, hq⟩
  obtain ⟨st, h1, h2⟩ := key n m fr h hm h0
  exact ⟨st, by show code P md call (drawR P md call) cfg n (.loop body) fr h = some st; rw [code]; exact h1, h2⟩

/-- Cut: what holds behind a piece of code. -/
theorem wC_mono {c : Code} {fr : List V} {h : Heap} {Q Q' : Kont} (hw : @wC P md call cfg n ⟨c⟩ fr h ⟨Q⟩) (hq : ∀ e fr h, Q e fr h → Q' e fr h) : @wC P md call cfg n ⟨c⟩ fr h ⟨Q'⟩ := by
  obtain ⟨st, h1, h2⟩ := hw
  exact ⟨st, h1, hq _ _ _ h2⟩

/- Frames with some slots known. -/
def look : List (Nat × V) → Nat → Option V
  | [], _ => none
  | (a, v) :: r, k => if a = k then some v else look r k

def fillL (l : List (Nat × V)) (j : Nat → V) : Nat → Nat → List V
  | 0, _ => []
  | c + 1, k => (look l k).getD (j k) :: fillL l j c (k + 1)

def AllS : List (Nat × V) → List V → Prop
  | [], _ => True
  | (k, v) :: r, fr => slot fr k = some v ∧ AllS r fr

def Slots (N : Nat) (l : List (Nat × V)) (fr : List V) : Prop := fr.length = N ∧ AllS l fr

@[simp] theorem AllS_nil {fr : List V} : AllS [] fr ↔ True := Iff.rfl
@[simp] theorem AllS_cons {k : Nat} {v : V} {r : List (Nat × V)} {fr : List V} : AllS ((k, v) :: r) fr ↔ slot fr k = some v ∧ AllS r fr := Iff.rfl
@[simp] theorem Slots_def {N : Nat} {l : List (Nat × V)} {fr : List V} : Slots N l fr ↔ fr.length = N ∧ AllS l fr := Iff.rfl
@[simp] theorem look_nil {k : Nat} : look [] k = none := rfl
@[simp] theorem look_cons {a k : Nat} {v : V} {r : List (Nat × V)} : look ((a, v) :: r) k = if a = k then some v else look r k := rfl
@[simp] theorem fillL_zero {l : List (Nat × V)} {j : Nat → V} {k : Nat} : fillL l j 0 k = [] := rfl
@[simp] theorem fillL_succ {l : List (Nat × V)} {j : Nat → V} {c k : Nat} : fillL l j (c + 1) k = (look l k).getD (j k) :: fillL l j c (k + 1) := rfl

theorem AllS_look {fr : List V} : ∀ {l : List (Nat × V)}, AllS l fr → ∀ k v, look l k = some v → fr[k]? = some v
  | [], _, k, v, h => by simp at h
  | (a, u) :: r, hs, k, v, h => by
    simp only [look_cons] at h
    split at h
    · rename_i hak; subst hak; cases h; exact hs.1
    · exact AllS_look hs.2 k v h

theorem fill_get (l : List (Nat × V)) (j : Nat → V) : ∀ (c k i : Nat), i < c → (fillL l j c k)[i]? = some ((look l (k + i)).getD (j (k + i)))
  | 0, _, _, h => by omega
  | c + 1, k, 0, _ => by simp
  | c + 1, k, i + 1, h => by
    simp only [fillL_succ, List.getElem?_cons_succ]
    rw [fill_get l j c (k + 1) i (by omega), show k + 1 + i = k + (i + 1) by omega]

theorem fill_len (l : List (Nat × V)) (j : Nat → V) : ∀ (c k : Nat), (fillL l j c k).length = c
  | 0, _ => rfl
  | c + 1, k => by simp [fill_len l j c]

theorem Slots.ex {N : Nat} {l : List (Nat × V)} {fr : List V} (hs : Slots N l fr) : ∃ j, fr = fillL l j N 0 := by
  obtain ⟨hl, ha⟩ := hs
  refine ⟨fun k => fr.getD k .no, List.ext_getElem? fun i => ?_⟩
  by_cases hi : i < N
  · rw [fill_get _ _ _ _ _ hi, Nat.zero_add]
    have hfi : fr[i]? = some fr[i] := List.getElem?_eq_getElem (by omega)
    cases hk : look l i with
    | none => simp [hfi]
    | some v => rw [AllS_look ha i v hk]; rfl
  · rw [List.getElem?_eq_none (by omega), List.getElem?_eq_none (by rw [fill_len]; omega)]
end
end Go.Ab
