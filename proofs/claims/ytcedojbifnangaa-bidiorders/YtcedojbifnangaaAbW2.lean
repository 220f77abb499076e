/- Functions and regions that draw their order, for simp. -/
import Derived.Test.YtcedojbifnangaaAbW
namespace Go.Ab

def kRes (o : Option (List V)) (h : Heap) [R : Hid (V → Heap → Prop)] : Prop := ∃ vs, o = some vs ∧ R.val (oneOf vs) h

def kFn (P : Program) [rs : Hid (List ResultVar)] [R : Hid (V → Heap → Prop)] (e : Ex) (fr : List V) (h : Heap) : Prop :=
  match e with
  | .exit _ => False
  | _ => @kRes (resV P fr h rs.val) h R

section
variable {P : Program} {md : FuncId → Nat} {call : Callf} {cfg : Cfg} {n : Nat} {prim : FuncId → Option Prim}

@[simp] theorem kFn_ret {rs : List ResultVar} {R : V → Heap → Prop} {fr : List V} {h : Heap} : @kFn P ⟨rs⟩ ⟨R⟩ .ret fr h ↔ @kRes (resV P fr h rs) h ⟨R⟩ := Iff.rfl
@[simp] theorem kFn_normal {rs : List ResultVar} {R : V → Heap → Prop} {fr : List V} {h : Heap} : @kFn P ⟨rs⟩ ⟨R⟩ .normal fr h ↔ @kRes (resV P fr h rs) h ⟨R⟩ := Iff.rfl
@[simp] theorem kRes_some {vs : List V} {h : Heap} {R : V → Heap → Prop} : @kRes (some vs) h ⟨R⟩ ↔ R (oneOf vs) h := by simp [kRes]
@[simp] theorem oneOf_one {v : V} : oneOf [v] = v := rfl
@[simp] theorem oneOf_two {v u : V} {r : List V} : oneOf (v :: u :: r) = .tup (v :: u :: r) := rfl
@[simp] theorem oneOf_nil : oneOf [] = .tup [] := rfl
@[simp] theorem resV_nil {fr : List V} {h : Heap} : resV P fr h [] = some [] := rfl
@[simp] theorem resV_tmp {fr : List V} {h : Heap} {t : Tmp} {r : List ResultVar} : resV P fr h (.tmp t :: r) = (slot fr t).bind fun v => (resV P fr h r).map (v :: ·) := by
  simp only [resV, slot]
  cases fr[t]? with
  | none => rfl
  | some v => cases resV P fr h r <;> rfl
@[simp] theorem resV_cell {fr : List V} {h : Heap} {a : Tmp} {t : TypeId} {r : List ResultVar} : resV P fr h (.cell a t :: r) = (slot fr a).bind fun p => (loadV P h t p).bind fun v => (resV P fr h r).map (v :: ·) := by
  simp only [resV, slot]
  cases fr[a]? with
  | none => rfl
  | some p =>
    simp only [Option.bind_some]
    cases loadV P h t p with
    | none => rfl
    | some v => cases resV P fr h r <;> rfl

theorem callN_of {d : Nat} {f : FuncId} {fn : Func} {c : Code} {k : Nat} {rs : List ResultVar} {args : List V} {h : Heap} {R : V → Heap → Prop} (hp : prim f = none) (hf : P.funcs[f]? = some fn) (hb : fn.body = some c) (hk : fn.ntmps = k)
    (hr : fn.results.toList = rs) (hw : @wC P md (callN P md prim n d) cfg n ⟨c⟩ (args ++ List.replicate (k - args.length) .no) h ⟨@kFn P ⟨rs⟩ ⟨R⟩⟩) :
    ∃ r h', callN P md prim n (d + 1) cfg f args h = some (r, h') ∧ R r h' := by
  subst hk; subst hr
  obtain ⟨⟨e, fr, h'⟩, h1, h2⟩ := hw
  replace h1 : code P md (callN P md prim n d) (drawR P md (callN P md prim n d)) cfg n c (args ++ List.replicate (fn.ntmps - args.length) V.no) h = some (e, fr, h') := h1
  simp only [callN, hp, hf, fnEv, hb, h1]
  cases e with
  | exit i => exact h2.elim
  | normal =>
    obtain ⟨vs, h3, h4⟩ := h2
    exact ⟨_, _, by simp only at h3 ⊢; rw [h3], h4⟩
  | ret =>
    obtain ⟨vs, h3, h4⟩ := h2
    exact ⟨_, _, by simp only at h3 ⊢; rw [h3], h4⟩

/-- A call of mode 0 with arguments that lead to no block. -/
theorem call0 {d : Nat} {f : FuncId} {fn : Func} {c : Code} {k : Nat} {rs : List ResultVar} {args : List V} {h : Heap} {r : V} (hm : md f = 0) (hp : prim f = none) (hf : P.funcs[f]? = some fn) (hb : fn.body = some c) (hk : fn.ntmps = k)
    (hr : fn.results.toList = rs) (ha : args.all V.noref = true)
    (hw : @wC P md (callN P md prim n d) ⟨0, none, 0⟩ n ⟨c⟩ (args ++ List.replicate (k - args.length) .no) [] ⟨@kFn P ⟨rs⟩ ⟨fun r' h' => frz h' 0 6 r' = some r⟩⟩) :
    callM md (callN P md prim n (d + 1)) cfg f args h = some (r, h) := by
  obtain ⟨r', h', h1, h2⟩ := callN_of hp hf hb hk hr hw
  simp only [callM, hm, ha, if_true, h1, h2]

/-- A call of mode 1. -/
theorem call1 {d : Nat} {f : FuncId} {fn : Func} {c : Code} {k : Nat} {rs : List ResultVar} {args : List V} {h h2 : Heap} {r : V} (hm : md f = 1) (hp : prim f = none) (hf : P.funcs[f]? = some fn) (hb : fn.body = some c) (hk : fn.ntmps = k)
    (hr : fn.results.toList = rs)
    (hw : @wC P md (callN P md prim n d) ⟨cfg.lo, cfg.ex, h.length⟩ n ⟨c⟩ (args ++ List.replicate (k - args.length) .no) h ⟨@kFn P ⟨rs⟩ ⟨fun r' h' => frz h' h.length 6 r' = some r ∧ h'.take h.length = h2⟩⟩) :
    callM md (callN P md prim n (d + 1)) cfg f args h = some (r, h2) := by
  obtain ⟨r', h', h1, h2, h3⟩ := callN_of hp hf hb hk hr hw
  simp only [callM, hm, h1, h2, h3]

/-- A call of mode 2. -/
theorem call2 {d : Nat} {f : FuncId} {fn : Func} {c : Code} {k : Nat} {rs : List ResultVar} {args : List V} {h h2 : Heap} {r : V} (hm : md f = 2) (hp : prim f = none) (hf : P.funcs[f]? = some fn) (hb : fn.body = some c) (hk : fn.ntmps = k)
    (hr : fn.results.toList = rs)
    (hw : @wC P md (callN P md prim n d) cfg n ⟨c⟩ (args ++ List.replicate (k - args.length) .no) h ⟨@kFn P ⟨rs⟩ ⟨fun r' h' => r' = r ∧ h' = h2⟩⟩) :
    callM md (callN P md prim n (d + 1)) cfg f args h = some (r, h2) := by
  obtain ⟨r', h', h1, rfl, rfl⟩ := callN_of hp hf hb hk hr hw
  simp only [callM, hm, h1]

/-- A call of mode 3. -/
theorem call3 {d : Nat} {f : FuncId} {fn : Func} {c : Code} {k : Nat} {rs : List ResultVar} {args args' : List V} {h : Heap} {r : V} (hm : md f = 3) (hp : prim f = none) (hf : P.funcs[f]? = some fn) (hb : fn.body = some c) (hk : fn.ntmps = k)
    (hr : fn.results.toList = rs) (ha : args.mapM (frzA h) = some args')
    (hw : @wC P md (callN P md prim n d) ⟨0, none, 0⟩ n ⟨c⟩ (args' ++ List.replicate (k - args'.length) .no) [] ⟨@kFn P ⟨rs⟩ ⟨fun r' h' => own h' 6 r' = true ∧ frz h' 0 6 r' = some r⟩⟩) :
    callM md (callN P md prim n (d + 1)) cfg f args h = some (r, h) := by
  obtain ⟨r', h', h1, h2, h3⟩ := callN_of hp hf hb hk hr hw
  simp only [callM, hm, ha, h1, h2, h3, if_true]

/- Regions that draw their order. -/
def stat (P : Program) (ops : Array Oper) : Option Nat :=
  if okOps P ops (befs [] ops.toList) (headLen (floatMask P 0 ops.toList) (befs [] ops.toList) ops.size) then some (headLen (floatMask P 0 ops.toList) (befs [] ops.toList) ops.size) else none

def headEv (P : Program) (md : FuncId → Nat) (call : Callf) (cfg : Cfg) (fr : List V) (h : Heap) (x : Option Nat) (ld : List Nat) (op : Op) : Option (V × Heap × Option Nat × List Nat) :=
    match op with
    | .call { callee := .value f, args, argTypes := _ } => match ev fr f, evAll fr args.toList with
      | some (.func (.func g) first captured), some vs =>
        match md g with
        | 0 => match callM md call ⟨h.length, none, h.length⟩ g ((first ++ vs) ++ captured) h with
          | some (v, h') => some (v, h', x, ld)
          | none => none
        | 3 => match callM md call ⟨h.length, none, h.length⟩ g ((first ++ vs) ++ captured) h with
          | some (v, h') => some (v, h', x, ld)
          | none => none
        | 1 => match (first ++ vs) ++ captured with
          | .ptr b _ :: _ =>
            if cfg.wr b && xOK x b then
              match callM md call ⟨h.length, some b, h.length⟩ g ((first ++ vs) ++ captured) h with
              | some (v, h') => some (v, h', some b, ld)
              | none => none
            else none
          | _ => none
        | 2 => match callM md call ⟨h.length, none, h.length⟩ g ((first ++ vs) ++ captured) h with
          | some (v, h') => some (v, h', x, ld)
          | none => none
        | _ => none
      | _, _ => none
    | .store t p y => match ev fr p with
      | some (.ptr b _) =>
        if cfg.wr b && xOK x b then
          match opV P ⟨h.length, some b, h.length⟩ fr h (.store t p y) with
          | some (v, h') => some (v, h', some b, ld)
          | none => none
        else none
      | _ => none
    | op => if headOp P op then
        match opV P cfg fr h op with
        | some (v, h') => some (v, h', x, match readsOf fr op with
          | some b => b :: ld
          | none => ld)
        | none => none
      else none

theorem headStep_eq {ops : Array Oper} {o : Oper} {fr : List V} {h : Heap} {x : Option Nat} {ld : List Nat} (hw : wantd ops fr o = some true) : headStep P md call cfg ops o fr h x ld = headEv P md call cfg fr h x ld o.op := by
  simp only [headStep, hw]; rfl
theorem headStep_no {ops : Array Oper} {o : Oper} {fr : List V} {h : Heap} {x : Option Nat} {ld : List Nat} (hw : wantd ops fr o = some false) : headStep P md call cfg ops o fr h x ld = some (.no, h, x, ld) := by
  simp only [headStep, hw]
end

section
variable (P : Program) (md : FuncId → Nat) (call : Callf) (cfg : Cfg) (n : Nat)
def wHd [ops : Hid (Array Oper)] [l : Hid (List Oper)] [tl : Hid (List Oper)] (fr : List V) (h : Heap) [n0 : Hid Nat] [x : Hid (Option Nat)] [ld : Hid (List Nat)] [Q : Hid KontO] : Prop :=
  ∃ st, headRun P md call cfg ops.val l.val fr h x.val ld.val = some st ∧ ldOK n0.val st.2.2.2 st.2.2.1 = true ∧ @wO P md call cfg ops tl st.1 st.2.1 Q
def wHS [dst : Hid (Option Tmp)] [fr : Hid (List V)] (r : Option (V × Heap × Option Nat × List Nat)) [ops : Hid (Array Oper)] [l : Hid (List Oper)] [tl : Hid (List Oper)] [n0 : Hid Nat] [Q : Hid KontO] : Prop :=
  ∃ st, r = some st ∧ @wHd P md call cfg ops l tl (put fr.val dst.val st.1) st.2.1 n0 ⟨st.2.2.1⟩ ⟨st.2.2.2⟩ Q
def wHG (g : Option V) [want : Hid Bool] [dst : Hid (Option Tmp)] [op : Hid Op] [ops : Hid (Array Oper)] [l : Hid (List Oper)] [tl : Hid (List Oper)] [fr : Hid (List V)] [h : Hid Heap] [n0 : Hid Nat] [x : Hid (Option Nat)] [ld : Hid (List Nat)] [Q : Hid KontO] : Prop :=
  match g with
  | some (.bool b) => @wIf (b == want.val) ⟨@wHS P md call cfg dst fr (headEv P md call cfg fr.val h.val x.val ld.val op.val) ops l tl n0 Q⟩ ⟨@wHd P md call cfg ops l tl (put fr.val dst.val .no) h.val n0 x ld Q⟩
  | some .no => @wHd P md call cfg ops l tl (put fr.val dst.val .no) h.val n0 x ld Q
  | _ => False
end

section
variable {P : Program} {md : FuncId → Nat} {call : Callf} {cfg : Cfg} {n : Nat}

theorem wC_draw {id : Nat} {ops : Array Oper} {fr : List V} {h : Heap} {Q : Kont} (N : Nat) (hs : stat P ops = some N) (hw : @wHd P md call cfg ⟨ops⟩ ⟨ops.toList.take N⟩ ⟨ops.toList.drop N⟩ fr h ⟨h.length⟩ ⟨none⟩ ⟨[]⟩ ⟨Q .normal⟩) :
    @wC P md call cfg n ⟨.region id ops true⟩ fr h ⟨Q⟩ := by
  unfold stat at hs
  split at hs
  · rename_i hok
    cases hs
    obtain ⟨⟨fr1, h1, x, ld⟩, hr, hl, ⟨fr2, h2⟩, ho, hq⟩ := hw
    refine ⟨(.normal, fr2, h2), ?_, hq⟩
    simp only at hl ho
    replace hr : headRun P md call cfg ops (ops.toList.take (headLen (floatMask P 0 ops.toList) (befs [] ops.toList) ops.size)) fr h none [] = some (fr1, h1, x, ld) := hr
    replace ho : runOps P md call cfg ops (ops.toList.drop (headLen (floatMask P 0 ops.toList) (befs [] ops.toList) ops.size)) fr1 h1 = some (fr2, h2) := ho
    show code P md call (drawR P md call) cfg n (.region id ops true) fr h = some (.normal, fr2, h2)
    simp only [code, drawR, hok, if_true, hr, hl, ho]
  · cases hs

@[simp] theorem wHd_take {ops : Array Oper} {o : Oper} {l tl : List Oper} {k : Nat} {fr : List V} {h : Heap} {n0 : Nat} {x : Option Nat} {ld : List Nat} {Q : KontO} : @wHd P md call cfg ⟨ops⟩ ⟨(o :: l).take (k + 1)⟩ ⟨(o :: tl).drop (k + 1)⟩ fr h ⟨n0⟩ ⟨x⟩ ⟨ld⟩ ⟨Q⟩ ↔ @wHd P md call cfg ⟨ops⟩ ⟨o :: l.take k⟩ ⟨tl.drop k⟩ fr h ⟨n0⟩ ⟨x⟩ ⟨ld⟩ ⟨Q⟩ := Iff.rfl
@[simp] theorem wHd_take0 {ops : Array Oper} {l tl : List Oper} {fr : List V} {h : Heap} {n0 : Nat} {x : Option Nat} {ld : List Nat} {Q : KontO} : @wHd P md call cfg ⟨ops⟩ ⟨l.take 0⟩ ⟨tl.drop 0⟩ fr h ⟨n0⟩ ⟨x⟩ ⟨ld⟩ ⟨Q⟩ ↔ @wHd P md call cfg ⟨ops⟩ ⟨[]⟩ ⟨tl⟩ fr h ⟨n0⟩ ⟨x⟩ ⟨ld⟩ ⟨Q⟩ := Iff.rfl
@[simp] theorem wHd_nil {ops : Array Oper} {tl : List Oper} {fr : List V} {h : Heap} {n0 : Nat} {x : Option Nat} {ld : List Nat} {Q : KontO} : @wHd P md call cfg ⟨ops⟩ ⟨[]⟩ ⟨tl⟩ fr h ⟨n0⟩ ⟨x⟩ ⟨ld⟩ ⟨Q⟩ ↔ ldOK n0 ld x = true ∧ @wO P md call cfg ⟨ops⟩ ⟨tl⟩ fr h ⟨Q⟩ := by simp [wHd, headRun]
@[simp] theorem wHd_cons {ops : Array Oper} {dst : Option Tmp} {op : Op} {ty : TypeId} {pos : String} {after : Array Edge} {l tl : List Oper} {fr : List V} {h : Heap} {n0 : Nat} {x : Option Nat} {ld : List Nat} {Q : KontO} :
    @wHd P md call cfg ⟨ops⟩ ⟨{ dst := dst, op := op, type := ty, pos := pos, after := after, guard := none } :: l⟩ ⟨tl⟩ fr h ⟨n0⟩ ⟨x⟩ ⟨ld⟩ ⟨Q⟩ ↔ @wHS P md call cfg ⟨dst⟩ ⟨fr⟩ (headEv P md call cfg fr h x ld op) ⟨ops⟩ ⟨l⟩ ⟨tl⟩ ⟨n0⟩ ⟨Q⟩ := by
  unfold wHd wHS
  simp only [headRun]
  rw [headStep_eq (by rfl)]
  cases ha : headEv P md call cfg fr h x ld op with
  | none => simp
  | some y => obtain ⟨v, h', x', ld'⟩ := y; simp [wHd]
@[simp] theorem wHd_guard {ops : Array Oper} {dst : Option Tmp} {op : Op} {ty : TypeId} {pos : String} {after : Array Edge} {j : Nat} {want : Bool} {l tl : List Oper} {fr : List V} {h : Heap} {n0 : Nat} {x : Option Nat} {ld : List Nat} {Q : KontO} :
    @wHd P md call cfg ⟨ops⟩ ⟨{ dst := dst, op := op, type := ty, pos := pos, after := after, guard := some (j, want) } :: l⟩ ⟨tl⟩ fr h ⟨n0⟩ ⟨x⟩ ⟨ld⟩ ⟨Q⟩ ↔ @wHG P md call cfg (gdOf ops fr j) ⟨want⟩ ⟨dst⟩ ⟨op⟩ ⟨ops⟩ ⟨l⟩ ⟨tl⟩ ⟨fr⟩ ⟨h⟩ ⟨n0⟩ ⟨x⟩ ⟨ld⟩ ⟨Q⟩ := by
  have hnone : ∀ o : Oper, wantd ops fr o = none → headStep P md call cfg ops o fr h x ld = none := fun o ho => by simp only [headStep, ho]
  unfold wHd wHG gdOf
  simp only [headRun]
  cases hj : ops[j]? with
  | none => simp [hnone _ (show wantd ops fr { dst := dst, op := op, type := ty, pos := pos, after := after, guard := some (j, want) } = none by simp [wantd, hj])]
  | some p =>
    cases hd : p.dst with
    | none => simp [hd, hnone _ (show wantd ops fr { dst := dst, op := op, type := ty, pos := pos, after := after, guard := some (j, want) } = none by simp [wantd, hj, hd])]
    | some d =>
      simp only [hd]
      cases hf : fr[d]? with
      | none => simp [hnone _ (show wantd ops fr { dst := dst, op := op, type := ty, pos := pos, after := after, guard := some (j, want) } = none by simp [wantd, hj, hd, hf])]
      | some v =>
        by_cases hb : ∃ b, v = .bool b
        · obtain ⟨b, rfl⟩ := hb
          have hw : wantd ops fr { dst := dst, op := op, type := ty, pos := pos, after := after, guard := some (j, want) } = some (b == want) := by simp [wantd, hj, hd, hf]
          cases hbw : (b == want)
          · rw [hbw] at hw
            rw [headStep_no hw]
            simp only [hbw, wIf_false]
            simp [wHd]
          · rw [hbw] at hw
            rw [headStep_eq hw]
            simp only [hbw, wIf_true, wHS, wHd]
            cases ha : headEv P md call cfg fr h x ld op with
            | none => simp
            | some y => obtain ⟨v, h', x', ld'⟩ := y; simp
        · by_cases hno : v = .no
          · subst hno
            have hw : wantd ops fr { dst := dst, op := op, type := ty, pos := pos, after := after, guard := some (j, want) } = some false := by simp [wantd, hj, hd, hf]
            rw [headStep_no hw]
            simp [wHd]
          · have hw : wantd ops fr { dst := dst, op := op, type := ty, pos := pos, after := after, guard := some (j, want) } = none := by
              simp only [wantd, hj, hd, hf]
              cases v <;> first | rfl | exact absurd ⟨_, rfl⟩ hb | exact absurd rfl hno
            rw [hnone _ hw]
            cases v <;> first | (exact absurd ⟨_, rfl⟩ hb) | (exact absurd rfl hno) | simp

@[simp] theorem wHG_bool {b want : Bool} {dst : Option Tmp} {op : Op} {ops : Array Oper} {l tl : List Oper} {fr : List V} {h : Heap} {n0 : Nat} {x : Option Nat} {ld : List Nat} {Q : KontO} :
    @wHG P md call cfg (some (.bool b)) ⟨want⟩ ⟨dst⟩ ⟨op⟩ ⟨ops⟩ ⟨l⟩ ⟨tl⟩ ⟨fr⟩ ⟨h⟩ ⟨n0⟩ ⟨x⟩ ⟨ld⟩ ⟨Q⟩ ↔ @wIf (b == want) ⟨@wHS P md call cfg ⟨dst⟩ ⟨fr⟩ (headEv P md call cfg fr h x ld op) ⟨ops⟩ ⟨l⟩ ⟨tl⟩ ⟨n0⟩ ⟨Q⟩⟩ ⟨@wHd P md call cfg ⟨ops⟩ ⟨l⟩ ⟨tl⟩ (put fr dst .no) h ⟨n0⟩ ⟨x⟩ ⟨ld⟩ ⟨Q⟩⟩ := Iff.rfl
@[simp] theorem wHG_no {want : Bool} {dst : Option Tmp} {op : Op} {ops : Array Oper} {l tl : List Oper} {fr : List V} {h : Heap} {n0 : Nat} {x : Option Nat} {ld : List Nat} {Q : KontO} :
    @wHG P md call cfg (some .no) ⟨want⟩ ⟨dst⟩ ⟨op⟩ ⟨ops⟩ ⟨l⟩ ⟨tl⟩ ⟨fr⟩ ⟨h⟩ ⟨n0⟩ ⟨x⟩ ⟨ld⟩ ⟨Q⟩ ↔ @wHd P md call cfg ⟨ops⟩ ⟨l⟩ ⟨tl⟩ (put fr dst .no) h ⟨n0⟩ ⟨x⟩ ⟨ld⟩ ⟨Q⟩ := Iff.rfl
@[simp] theorem wHS_some {dst : Option Tmp} {fr : List V} {v : V} {h : Heap} {x : Option Nat} {ld : List Nat} {ops : Array Oper} {l tl : List Oper} {n0 : Nat} {Q : KontO} :
    @wHS P md call cfg ⟨dst⟩ ⟨fr⟩ (some (v, h, x, ld)) ⟨ops⟩ ⟨l⟩ ⟨tl⟩ ⟨n0⟩ ⟨Q⟩ ↔ @wHd P md call cfg ⟨ops⟩ ⟨l⟩ ⟨tl⟩ (put fr dst v) h ⟨n0⟩ ⟨x⟩ ⟨ld⟩ ⟨Q⟩ := by simp [wHS]
@[simp] theorem ldOK_none {m : Nat} {ld : List Nat} : ldOK m ld none = true := rfl
@[simp] theorem ldOK_some {m : Nat} {ld : List Nat} {b : Nat} : ldOK m ld (some b) = (!ld.contains b && decide (b < m)) := rfl
@[simp] theorem xOK_none {b : Nat} : xOK none b = true := rfl
@[simp] theorem xOK_some {a b : Nat} : xOK (some a) b = (a == b) := rfl

def addLd (p : Option V) (ld : List Nat) : List Nat :=
  match p with
  | some (.ptr b _) => b :: ld
  | _ => ld
@[simp] theorem addLd_ptr {b off : Nat} {ld : List Nat} : addLd (some (.ptr b off)) ld = b :: ld := rfl
@[simp] theorem addLd_lptr {cs : List V} {off : Nat} {ld : List Nat} : addLd (some (.lptr cs off)) ld = ld := rfl
@[simp] theorem addLd_lst {cs : List (List V)} {ld : List Nat} : addLd (some (.lst cs)) ld = ld := rfl
@[simp] theorem addLd_sl {a b c d e : Nat} {ld : List Nat} : addLd (some (.sl a b c d e)) ld = ld := rfl
@[simp] theorem addLd_nils {ld : List Nat} : addLd (some .nils) ld = ld := rfl
@[simp] theorem addLd_str {s : ByteArray} {ld : List Nat} : addLd (some (.str s)) ld = ld := rfl

theorem headEv_plain {fr : List V} {h : Heap} {x : Option Nat} {ld : List Nat} {op : Op} (h1 : ∀ f a t, op ≠ .call { callee := .value f, args := a, argTypes := t }) (h2 : ∀ t p y, op ≠ .store t p y) (h3 : headOp P op = true) (h4 : readsOf fr op = none) :
    headEv P md call cfg fr h x ld op = (opEv P md call cfg fr h op).map fun r => (r.1, r.2, x, ld) := by
  have he : opEv P md call cfg fr h op = opV P cfg fr h op := by
    unfold opEv
    split
    · exact absurd rfl (h1 _ _ _)
    · rfl
  rw [he]
  unfold headEv
  split
  · exact absurd rfl (h1 _ _ _)
  · exact absurd rfl (h2 _ _ _)
  · simp only [h3, if_true, h4]
    cases opV P cfg fr h op <;> rfl
@[simp] theorem headEv_move {fr : List V} {h : Heap} {x : Option Nat} {ld : List Nat} {a : Operand} : headEv P md call cfg fr h x ld (.move a) = (opEv P md call cfg fr h (.move a)).map fun r => (r.1, r.2, x, ld) := headEv_plain (by simp) (by simp) rfl rfl
@[simp] theorem headEv_assign {fr : List V} {h : Heap} {x : Option Nat} {ld : List Nat} {a : Operand} : headEv P md call cfg fr h x ld (.assign a) = (opEv P md call cfg fr h (.assign a)).map fun r => (r.1, r.2, x, ld) := headEv_plain (by simp) (by simp) rfl rfl
@[simp] theorem headEv_pick {fr : List V} {h : Heap} {x : Option Nat} {ld : List Nat} {a b c : Operand} : headEv P md call cfg fr h x ld (.pick a b c) = (opEv P md call cfg fr h (.pick a b c)).map fun r => (r.1, r.2, x, ld) := headEv_plain (by simp) (by simp) rfl rfl
@[simp] theorem headEv_build {fr : List V} {h : Heap} {x : Option Nat} {ld : List Nat} {t : TypeId} {p : Array (Nat × Operand)} : headEv P md call cfg fr h x ld (.build t p) = (opEv P md call cfg fr h (.build t p)).map fun r => (r.1, r.2, x, ld) := headEv_plain (by simp) (by simp) rfl rfl
@[simp] theorem headEv_nilCheck {fr : List V} {h : Heap} {x : Option Nat} {ld : List Nat} {a : Operand} : headEv P md call cfg fr h x ld (.nilCheck a) = (opEv P md call cfg fr h (.nilCheck a)).map fun r => (r.1, r.2, x, ld) := headEv_plain (by simp) (by simp) rfl rfl
@[simp] theorem headEv_binOp {fr : List V} {h : Heap} {x : Option Nat} {ld : List Nat} {o : BinOp} {t u : TypeId} {a b : Operand} : headEv P md call cfg fr h x ld (.binOp o t a b u) = (opEv P md call cfg fr h (.binOp o t a b u)).map fun r => (r.1, r.2, x, ld) := headEv_plain (by simp) (by simp) rfl rfl
@[simp] theorem headEv_unOp {fr : List V} {h : Heap} {x : Option Nat} {ld : List Nat} {o : UnOp} {t : TypeId} {a : Operand} : headEv P md call cfg fr h x ld (.unOp o t a) = (opEv P md call cfg fr h (.unOp o t a)).map fun r => (r.1, r.2, x, ld) := headEv_plain (by simp) (by simp) rfl rfl
@[simp] theorem headEv_makeFunc {fr : List V} {h : Heap} {x : Option Nat} {ld : List Nat} {f : Fn} {a b : Array Operand} : headEv P md call cfg fr h x ld (.makeFunc f a b) = (opEv P md call cfg fr h (.makeFunc f a b)).map fun r => (r.1, r.2, x, ld) := headEv_plain (by simp) (by simp) rfl rfl
@[simp] theorem headEv_fieldAddr {fr : List V} {h : Heap} {x : Option Nat} {ld : List Nat} {t : TypeId} {a : Operand} {i : Nat} : headEv P md call cfg fr h x ld (.fieldAddr t a i) = (opEv P md call cfg fr h (.fieldAddr t a i)).map fun r => (r.1, r.2, x, ld) := headEv_plain (by simp) (by simp) rfl rfl
@[simp] theorem headEv_field {fr : List V} {h : Heap} {x : Option Nat} {ld : List Nat} {t : TypeId} {a : Operand} {i : Nat} : headEv P md call cfg fr h x ld (.field t a i) = (opEv P md call cfg fr h (.field t a i)).map fun r => (r.1, r.2, x, ld) := headEv_plain (by simp) (by simp) rfl rfl
@[simp] theorem headEv_indexAddr {fr : List V} {h : Heap} {x : Option Nat} {ld : List Nat} {t : TypeId} {a i : Operand} : headEv P md call cfg fr h x ld (.indexAddr t a i) = (opEv P md call cfg fr h (.indexAddr t a i)).map fun r => (r.1, r.2, x, ld) := headEv_plain (by simp) (by simp) rfl rfl
@[simp] theorem headEv_index {fr : List V} {h : Heap} {x : Option Nat} {ld : List Nat} {t : TypeId} {a i : Operand} : headEv P md call cfg fr h x ld (.index t a i) = (opEv P md call cfg fr h (.index t a i)).map fun r => (r.1, r.2, x, ld) := headEv_plain (by simp) (by simp) rfl rfl
@[simp] theorem headEv_extract {fr : List V} {h : Heap} {x : Option Nat} {ld : List Nat} {a : Operand} {i : Nat} : headEv P md call cfg fr h x ld (.extract a i) = (opEv P md call cfg fr h (.extract a i)).map fun r => (r.1, r.2, x, ld) := headEv_plain (by simp) (by simp) rfl rfl
@[simp] theorem headEv_alloc {fr : List V} {h : Heap} {x : Option Nat} {ld : List Nat} {t : TypeId} : headEv P md call cfg fr h x ld (.alloc t) = (opEv P md call cfg fr h (.alloc t)).map fun r => (r.1, r.2, x, ld) := headEv_plain (by simp) (by simp) rfl rfl
@[simp] theorem headEv_box {fr : List V} {h : Heap} {x : Option Nat} {ld : List Nat} {t : TypeId} {a : Operand} : headEv P md call cfg fr h x ld (.box t a) = (opEv P md call cfg fr h (.box t a)).map fun r => (r.1, r.2, x, ld) := headEv_plain (by simp) (by simp) rfl rfl
@[simp] theorem headEv_buildSlice {fr : List V} {h : Heap} {x : Option Nat} {ld : List Nat} {t : TypeId} {k : Nat} {p : Array (Nat × Operand)} : headEv P md call cfg fr h x ld (.buildSlice t k p) = (opEv P md call cfg fr h (.buildSlice t k p)).map fun r => (r.1, r.2, x, ld) := headEv_plain (by simp) (by simp) rfl rfl
@[simp] theorem headEv_makeSlice {fr : List V} {h : Heap} {x : Option Nat} {ld : List Nat} {t : TypeId} {a b : Operand} : headEv P md call cfg fr h x ld (.makeSlice t a b) = (opEv P md call cfg fr h (.makeSlice t a b)).map fun r => (r.1, r.2, x, ld) := headEv_plain (by simp) (by simp) rfl rfl
@[simp] theorem headEv_len {fr : List V} {h : Heap} {x : Option Nat} {ld : List Nat} {a : Array Operand} {t : Array TypeId} : headEv P md call cfg fr h x ld (.call { callee := .builtin .len, args := a, argTypes := t }) = (opEv P md call cfg fr h (.call { callee := .builtin .len, args := a, argTypes := t })).map fun r => (r.1, r.2, x, ld) := headEv_plain (by simp) (by simp) rfl rfl
@[simp] theorem headEv_min {fr : List V} {h : Heap} {x : Option Nat} {ld : List Nat} {a : Array Operand} {t : Array TypeId} : headEv P md call cfg fr h x ld (.call { callee := .builtin .min, args := a, argTypes := t }) = (opEv P md call cfg fr h (.call { callee := .builtin .min, args := a, argTypes := t })).map fun r => (r.1, r.2, x, ld) := headEv_plain (by simp) (by simp) rfl rfl
@[simp] theorem headEv_max {fr : List V} {h : Heap} {x : Option Nat} {ld : List Nat} {a : Array Operand} {t : Array TypeId} : headEv P md call cfg fr h x ld (.call { callee := .builtin .max, args := a, argTypes := t }) = (opEv P md call cfg fr h (.call { callee := .builtin .max, args := a, argTypes := t })).map fun r => (r.1, r.2, x, ld) := headEv_plain (by simp) (by simp) rfl rfl
@[simp] theorem headEv_load {fr : List V} {h : Heap} {x : Option Nat} {ld : List Nat} {t : TypeId} {a : Operand} : headEv P md call cfg fr h x ld (.load t a) = (opEv P md call cfg fr h (.load t a)).map fun r => (r.1, r.2, x, addLd (ev fr a) ld) := by
  simp only [headEv, opEv, headOp, if_true, readsOf]
  cases hv : opV P cfg fr h (.load t a) with
  | none => rfl
  | some y =>
    cases ha : ev fr a with
    | none => rfl
    | some v => cases v <;> rfl
@[simp] theorem headEv_slice {fr : List V} {h : Heap} {x : Option Nat} {ld : List Nat} {t : TypeId} {a : Operand} {lo hi : Option Operand} : headEv P md call cfg fr h x ld (.slice t a lo hi none) = (opEv P md call cfg fr h (.slice t a lo hi none)).map fun r => (r.1, r.2, x, addLd (ev fr a) ld) := by
  simp only [headEv, opEv, headOp, if_true, readsOf]
  cases hv : opV P cfg fr h (.slice t a lo hi none) with
  | none => rfl
  | some y =>
    cases ha : ev fr a with
    | none => rfl
    | some v => cases v <;> rfl
@[simp] theorem headEv_convert {fr : List V} {h : Heap} {x : Option Nat} {ld : List Nat} {s d : TypeId} {a : Operand} : headEv P md call cfg fr h x ld (.convert s d a) = if headOp P (.convert s d a) then (opEv P md call cfg fr h (.convert s d a)).map fun r => (r.1, r.2, x, ld) else none := by
  simp only [headEv, opEv, readsOf]
  split
  · cases hv : opV P cfg fr h (.convert s d a) <;> rfl
  · rfl

def hdCall (md : FuncId → Nat) (call : Callf) (cfg : Cfg) (h : Heap) (x : Option Nat) (ld : List Nat) (m : Nat) (g : FuncId) (vs : List V) : Option (V × Heap × Option Nat × List Nat) :=
  match m with
  | 0 => (callM md call ⟨h.length, none, h.length⟩ g vs h).map fun r => (r.1, r.2, x, ld)
  | 3 => (callM md call ⟨h.length, none, h.length⟩ g vs h).map fun r => (r.1, r.2, x, ld)
  | 1 => match vs with
    | .ptr b _ :: _ => if cfg.wr b && xOK x b then (callM md call ⟨h.length, some b, h.length⟩ g vs h).map fun r => (r.1, r.2, some b, ld) else none
    | _ => none
  | 2 => (callM md call ⟨h.length, none, h.length⟩ g vs h).map fun r => (r.1, r.2, x, ld)
  | _ => none
def hdCallOf (md : FuncId → Nat) (call : Callf) (cfg : Cfg) (h : Heap) (x : Option Nat) (ld : List Nat) (f : Option V) (vs : Option (List V)) : Option (V × Heap × Option Nat × List Nat) :=
  match f, vs with
  | some (.func (.func g) first captured), some vs => hdCall md call cfg h x ld (md g) g ((first ++ vs) ++ captured)
  | _, _ => none
@[simp] theorem headEv_call {fr : List V} {h : Heap} {x : Option Nat} {ld : List Nat} {f : Operand} {a : Array Operand} {t : Array TypeId} : headEv P md call cfg fr h x ld (.call { callee := .value f, args := a, argTypes := t }) = hdCallOf md call cfg h x ld (ev fr f) (evAll fr a.toList) := by
  simp only [headEv, hdCallOf]
  split
  · rename_i g first captured vs hf hvs
    unfold hdCall
    split <;> rename_i hm
    · cases callM md call ⟨h.length, none, h.length⟩ g (first ++ vs ++ captured) h <;> rfl
    · cases callM md call ⟨h.length, none, h.length⟩ g (first ++ vs ++ captured) h <;> rfl
    · split
      · rename_i b off rest has
        split
        · cases callM md call ⟨h.length, some b, h.length⟩ g (first ++ vs ++ captured) h <;> rfl
        · rfl
      · rfl
    · cases callM md call ⟨h.length, none, h.length⟩ g (first ++ vs ++ captured) h <;> rfl
    · rfl
  · rfl
@[simp] theorem hdCallOf_some {h : Heap} {x : Option Nat} {ld : List Nat} {g : FuncId} {first captured vs : List V} : hdCallOf md call cfg h x ld (some (.func (.func g) first captured)) (some vs) = hdCall md call cfg h x ld (md g) g ((first ++ vs) ++ captured) := rfl
@[simp] theorem hdCall_0 {h : Heap} {x : Option Nat} {ld : List Nat} {g : FuncId} {vs : List V} : hdCall md call cfg h x ld 0 g vs = (callM md call ⟨h.length, none, h.length⟩ g vs h).map fun r => (r.1, r.2, x, ld) := rfl
@[simp] theorem hdCall_3 {h : Heap} {x : Option Nat} {ld : List Nat} {g : FuncId} {vs : List V} : hdCall md call cfg h x ld 3 g vs = (callM md call ⟨h.length, none, h.length⟩ g vs h).map fun r => (r.1, r.2, x, ld) := rfl
@[simp] theorem hdCall_2 {h : Heap} {x : Option Nat} {ld : List Nat} {g : FuncId} {vs : List V} : hdCall md call cfg h x ld 2 g vs = (callM md call ⟨h.length, none, h.length⟩ g vs h).map fun r => (r.1, r.2, x, ld) := rfl
@[simp] theorem hdCall_1 {h : Heap} {x : Option Nat} {ld : List Nat} {g : FuncId} {b off : Nat} {vs : List V} : hdCall md call cfg h x ld 1 g (.ptr b off :: vs) = if cfg.wr b && xOK x b then (callM md call ⟨h.length, some b, h.length⟩ g (.ptr b off :: vs) h).map fun r => (r.1, r.2, some b, ld) else none := rfl
def hdStore (P : Program) (cfg : Cfg) (h : Heap) (x : Option Nat) (ld : List Nat) (t : TypeId) (p v : Option V) : Option (V × Heap × Option Nat × List Nat) :=
  match p with
  | some (.ptr b off) => if cfg.wr b && xOK x b then (v.bind fun v => storeV P ⟨h.length, some b, h.length⟩ h t (.ptr b off) v).map fun h' => (.no, h', some b, ld) else none
  | _ => none
@[simp] theorem headEv_store {fr : List V} {h : Heap} {x : Option Nat} {ld : List Nat} {t : TypeId} {p y : Operand} : headEv P md call cfg fr h x ld (.store t p y) = hdStore P cfg h x ld t (ev fr p) (ev fr y) := by
  simp only [headEv, hdStore, opV]
  split
  · rename_i b off hp
    simp only [hp]
    split
    · cases ev fr y with
      | none => simp
      | some v => simp only [Option.bind_some]; cases storeV P ⟨h.length, some b, h.length⟩ h t (.ptr b off) v <;> rfl
    · rfl
  · rfl
@[simp] theorem hdStore_some {h : Heap} {x : Option Nat} {ld : List Nat} {t : TypeId} {b off : Nat} {v : Option V} : hdStore P cfg h x ld t (some (.ptr b off)) v = if cfg.wr b && xOK x b then (v.bind fun v => storeV P ⟨h.length, some b, h.length⟩ h t (.ptr b off) v).map fun h' => (.no, h', some b, ld) else none := rfl
end
end Go.Ab
