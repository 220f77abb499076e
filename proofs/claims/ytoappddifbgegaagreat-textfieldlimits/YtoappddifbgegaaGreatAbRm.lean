/- Several texts of this proof in one. -/
import Derived.Test.YtoappddifbgegaaGreatAbRound
import Derived.Test.YtoappddifbgegaaGreatAbW3
set_option linter.all false
namespace Go.Ab
open Go.RowKit (Below)
set_option linter.unusedSectionVars false
abbrev Hook := List V → Heap → Option Heap
def dropY (ys : List Nat) : Option Tmp → List Nat
  | none => ys
  | some d => ys.filter fun s => s != d
def stepY (P : Program) (md : FuncId → Nat) (call : Callf) (cfg : Cfg) (hook : Hook) (ops : Array Oper) (ys : List Nat) (o : Oper) (fr : List V) (h : Heap) : Option (List V × Heap × List Nat) :=
  if o.dst = some 0 then none
  else match (match o.op with
    | .call { callee := .value (.tmp s), args, argTypes := _ } => if ys.contains s then some (s, some args) else none
    | .move (.tmp s) => if ys.contains s then some (s, none) else none
    | _ => none) with
  | some (_, some args) => match wantd ops fr o with
    | some true => match evAll fr args.toList with
      | some vs => match hook vs h with
        | some h' => some (put fr o.dst (.bool true), h', dropY ys o.dst)
        | none => none
      | none => none
    | _ => none
  | some (_, none) => match o.guard, o.dst with
    | none, some d => if d < fr.length then some (put fr o.dst .any, h, d :: ys) else none
    | _, _ => none
  | none => match stepOp P md call cfg ops o fr h with
    | some (fr', h') => some (fr', h', dropY ys o.dst)
    | none => none
def runY (P : Program) (md : FuncId → Nat) (call : Callf) (cfg : Cfg) (hook : Hook) (ops : Array Oper) : List Nat → List Oper → List V → Heap → Option (List V × Heap)
  | _, [], fr, h => some (fr, h)
  | ys, o :: r, fr, h => match stepY P md call cfg hook ops ys o fr h with
    | some (fr', h', ys') => runY P md call cfg hook ops ys' r fr' h'
    | none => none
def codeY (P : Program) (md : FuncId → Nat) (call : Callf) (cfg : Cfg) (hook : Hook) (n : Nat) : Code → List V → Heap → Option St
  | .skip, fr, h => some (.normal, fr, h)
  | .region _ ops false, fr, h => match runY P md call cfg hook ops [0] ops.toList fr h with
    | some (fr', h') => some (.normal, fr', h')
    | none => none
  | .seq a b, fr, h => match codeY P md call cfg hook n a fr h with
    | some (.normal, fr', h') => codeY P md call cfg hook n b fr' h'
    | r => r
  | .cond c t e, fr, h => match ev fr c with
    | some (.bool true) => codeY P md call cfg hook n t fr h
    | some (.bool false) => codeY P md call cfg hook n e fr h
    | _ => none
  | .block id b, fr, h => match codeY P md call cfg hook n b fr h with
    | some (.exit i, fr', h') => some (if i = id then .normal else .exit i, fr', h')
    | r => r
  | .loop b, fr, h => iter (codeY P md call cfg hook n b) n fr h
  | .exit id, fr, h => some (.exit id, fr, h)
  | .ret, fr, h => some (.ret, fr, h)
  | _, _, _ => none
def setTs (fr : List V) : List Tmp → List V → List V
  | t :: ts, v :: vs => setTs (fr.set t v) ts vs
  | _, _ => fr
def roundY (P : Program) (md : FuncId → Nat) (call : Callf) (draw : Drawf) (cfg : Cfg) (n : Nat) (ps : Array Tmp) (assign body : Code) (fr : List V) : Hook := fun vs h =>
  if vs.length = ps.size then match code P md call draw cfg n assign (setTs fr ps.toList vs) h with
    | some (.normal, fr2, h2) => match code P md call draw cfg n body fr2 h2 with
      | some (.normal, _, h3) => some h3
      | _ => none
    | _ => none
  else none
def codeR (P : Program) (md : FuncId → Nat) (call : Callf) (draw : Drawf) (cfg : Cfg) (n : Nat) : Code → List V → Heap → Option St
  | .seq a b, fr, h => match codeR P md call draw cfg n a fr h with
    | some (.normal, fr', h') => codeR P md call draw cfg n b fr' h'
    | r => r
  | .cond c t e, fr, h => match ev fr c with
    | some (.bool true) => codeR P md call draw cfg n t fr h
    | some (.bool false) => codeR P md call draw cfg n e fr h
    | _ => none
  | .block id b, fr, h => match codeR P md call draw cfg n b fr h with
    | some (.exit i, fr', h') => some (if i = id then .normal else .exit i, fr', h')
    | r => r
  | .rangeFunc g ps assign body, fr, h => match ev fr g with
    | some (.func (.func gf) [] caps) => match P.funcs[gf]? with
      | some fn => match fn.body with
        | some c => if roundB assign && roundB body && fn.results.isEmpty then
            match codeY P md call cfg (roundY P md call draw cfg n ps assign body fr) n c ((.any :: caps) ++ List.replicate (fn.ntmps - (caps.length + 1)) .no) h with
            | some (.exit _, _, _) => none
            | some (_, _, h') => some (.normal, fr, h')
            | none => none
          else none
        | none => none
      | none => none
    | _ => none
  | c, fr, h => code P md call draw cfg n c fr h
section
variable [Base]
variable {P : Program}
theorem opW {o : Oper} {a : Act} {w : World} {K : Act → World → Prop} {Q : Exit → Act → World → Prop} (h : o.wp P a w K Q) : o.wpIn Fence.wide 0 P a w K Q := by
  refine ⟨fun _ _ => trivial, ?_⟩
  rw [show Fence.wide.round = none from rfl, Oper.semAt_none]
  unfold Oper.wp at h
  revert h
  generalize (execOp a.eval o).run P w = r
  intro h
  cases r with
  | ok x w' =>
    cases x with
    | value v => exact h
    | skip => exact h
    | defer d => exact h
    | enter f args => exact ⟨fun he => by simp [Fence.wide] at he, callsIn_wide.2 h⟩
    | row row args => exact ⟨fun he => by simp [Fence.wide] at he, fun c cs _ => let ⟨v, w', r, s⟩ := h c cs; ⟨v, w', r, stepsIn_wide.2 s⟩⟩
    | _ => exact h.elim
  | halt x w' =>
    cases x with
    | panic v => exact h
    | _ => exact h.elim
structure YAs (l : Nat) (ys : List Nat) (a : Act) : Prop where
  y : ∀ s ∈ ys, a.tmps[s]? = some (.func (.yield l) #[] #[])
  d : a.defers = []
abbrev YAct (l : Nat) (a : Act) : Prop := YAs l [0] a
theorem YAs.put {l : Nat} {ys : List Nat} {a : Act} (h : YAs l ys a) (d : Option Tmp) (v : Value) : YAs l (dropY ys d) (a.put d v) := by
  cases d with
  | none => exact h
  | some d =>
    refine ⟨fun s hs => ?_, h.d⟩
    simp only [dropY, List.mem_filter, bne_iff_ne] at hs
    simp only [Act.put]
    rw [Array.getElem?_setIfInBounds_ne (fun e => hs.2 e.symm)]
    exact h.y s hs.1
theorem YAs.zero {l : Nat} {ys : List Nat} {a : Act} (h : YAs l ys a) (h0 : 0 ∈ ys) : YAct l a := ⟨fun s hs => by rw [List.mem_singleton.1 hs]; exact h.y 0 h0, h.d⟩
theorem mem_drop {ys : List Nat} {d : Option Tmp} (h : 0 ∈ ys) (hd : ¬ d = some 0) : 0 ∈ dropY ys d := by
  cases d with
  | none => exact h
  | some d => exact List.mem_filter.2 ⟨h, by simp only [bne_iff_ne]; exact fun e => hd (by rw [← e])⟩
def JEvo (J : Mu → Heap → World → Prop) : Prop := ∀ m h w m' h' w', Rel m h w → J m h w → Evo m h w m' h' w' → J m' h' w'
def HookOK (P : Program) (l : Nat) (J : Mu → Heap → World → Prop) (hook : Hook) : Prop := ∀ vs h h', hook vs h = some h' → ∀ m w us, Rel m h w → J m h w → PW m h w vs us →
  YieldAt Fence.wide 0 P l us w fun e w' => e = .returned (.bool true) ∧ ∃ m', Evo m h w m' h' w' ∧ Rel m' h' w' ∧ J m' h' w'
def AfterY (J : Mu → Heap → World → Prop) (l : Nat) (m : Mu) (h : Heap) (w : World) (fr' : List V) (h' : Heap) (a' : Act) (w' : World) : Prop :=
  ∃ m', Evo m h w m' h' w' ∧ Rel m' h' w' ∧ FR m' h' w' fr' a' ∧ J m' h' w' ∧ YAct l a'
theorem AfterY.trans {J : Mu → Heap → World → Prop} {l : Nat} {m m1 : Mu} {h h1 h2 : Heap} {w w1 w2 : World} {fr2 : List V} {a2 : Act} (e : Evo m h w m1 h1 w1) (k : AfterY J l m1 h1 w1 fr2 h2 a2 w2) : AfterY J l m h w fr2 h2 a2 w2 :=
  let ⟨m', e', r', f', j', y'⟩ := k
  ⟨m', e.trans e', r', f', j', y'⟩
def AfterYs (J : Mu → Heap → World → Prop) (l : Nat) (ys : List Nat) (m : Mu) (h : Heap) (w : World) (fr' : List V) (h' : Heap) (a' : Act) (w' : World) : Prop :=
  ∃ m', Evo m h w m' h' w' ∧ Rel m' h' w' ∧ FR m' h' w' fr' a' ∧ J m' h' w' ∧ YAs l ys a'
theorem stepY_ok (hN : Named P) {md : FuncId → Nat} {call : Callf} (hcall : CallOK P call) {cfg : Cfg} {hook : Hook} (hHS : ∀ vs h h', hook vs h = some h' → HS cfg h h') {ops : Array Oper} {ys ys' : List Nat} {fr fr' : List V} {h h' : Heap} {o : Oper} (h0 : 0 ∈ ys) (hx : stepY P md call cfg hook ops ys o fr h = some (fr', h', ys')) :
    0 ∈ ys' ∧ HS cfg h h' ∧ ∀ l J, JEvo J → HookOK P l J hook → ∀ m w a, Rel m h w → FR m h w fr a → J m h w → YAs l ys a → ∀ (K : Act → World → Prop) (Q : Exit → Act → World → Prop), (∀ a' w', AfterYs J l ys' m h w fr' h' a' w' → K a' w') →
      if Region.wanted o (yielded ops a.tmps) then o.wpIn Fence.wide 0 P a w K Q else (∀ f, o.about P w a.eval = some f → Fence.wide.fn f) ∧ K (a.put o.dst undef) w := by
  unfold stepY at hx
  split at hx
  · cases hx
  rename_i hd
  split at hx
  · rename_i s args hm
    have hop : ∃ tys, o.op = .call { callee := .value (.tmp s), args := args, argTypes := tys } ∧ s ∈ ys := by
      split at hm
      · rename_i s' args' tys hop
        split at hm
        · rename_i hc
          cases hm
          exact ⟨tys, hop, by simpa using hc⟩
        · cases hm
      · split at hm <;> cases hm
      · cases hm
    clear hm
    obtain ⟨tys, hop, hs⟩ := hop
    split at hx
    · rename_i hw
      split at hx
      · rename_i vs hvs
        split at hx
        · rename_i h2 hh
          simp only [Option.some.injEq, Prod.mk.injEq] at hx
          obtain ⟨rfl, rfl, rfl⟩ := hx
          refine ⟨mem_drop h0 hd, hHS _ _ _ hh, fun l J hJ hK m w a r fR j y K Q hQ => ?_⟩
          rw [wantd_ok fR hw]
          simp only [if_true]
          obtain ⟨hl, hr⟩ := evAll_R fR hvs
          obtain ⟨fn, tmps, assign, body, hy, hR⟩ := hK _ _ _ hh m w (args.map a.eval) r j ⟨by simpa using hl, fun i c v hc hv => hr i c v hc (by simpa using hv)⟩
          refine ⟨fun _ _ => trivial, ?_⟩
          rw [show Fence.wide.round = none from rfl, Oper.semAt_none]
          have he : a.eval (.tmp s) = .func (.yield l) #[] #[] := by simp only [Act.eval, Array.getD_eq_getD_getElem?, y.y s hs, Option.getD_some]
          have hrun : (execOp a.eval o).run P w = .ok (.round l fn tmps assign body) w := by
            simp only [execOp, hop, Sem.run_bind, resolve, he, Deferred.ofValue, Sem.run_pure, Result.andThen_ok, invoke, Array.empty_append, hy]
          rw [hrun, Oper.uponIn_round]
          refine ⟨fun he => by simp [Fence.wide] at he, hR.mono ?_⟩
          rintro e w' ⟨rfl, m', e', r', j'⟩
          exact hQ _ _ ⟨m', e', r', (fR.evo r e').put (.bool true) o.dst, j', y.put _ _⟩
        · cases hx
      · cases hx
    · cases hx
  · rename_i s hm
    have hop : o.op = .move (.tmp s) ∧ s ∈ ys := by
      split at hm
      · split at hm <;> cases hm
      · rename_i s' hop
        split at hm
        · rename_i hc
          cases hm
          exact ⟨hop, by simpa using hc⟩
        · cases hm
      · cases hm
    clear hm
    split at hx
    · rename_i d hg hdst
      split at hx
      · rename_i hlt
        simp only [Option.some.injEq, Prod.mk.injEq] at hx
        obtain ⟨rfl, rfl, rfl⟩ := hx
        refine ⟨List.mem_cons_of_mem _ h0, .refl _ _, fun l J hJ hK m w a r fR j y K Q hQ => ?_⟩
        have hwn : Region.wanted o (yielded ops a.tmps) = true := by simp [Region.wanted, hg]
        rw [hwn]
        simp only [if_true]
        refine ⟨fun _ _ => trivial, ?_⟩
        rw [show Fence.wide.round = none from rfl, Oper.semAt_none]
        have hrun : (execOp a.eval o).run P w = .ok (.value (a.eval (.tmp s))) w := by simp only [execOp, hop.1, Sem.run_pure]
        have he : a.eval (.tmp s) = .func (.yield l) #[] #[] := by simp only [Act.eval, Array.getD_eq_getD_getElem?, y.y s hop.2, Option.getD_some]
        rw [hrun, Oper.uponIn_value]
        refine hQ _ _ ⟨m, .refl _ _ _, r, fR.put (.any _) o.dst, j, ⟨fun q hq => ?_, by rw [hdst]; exact y.d⟩⟩
        rw [hdst]
        simp only [Act.put]
        by_cases hqd : d = q
        · subst hqd
          rw [Array.getElem?_setIfInBounds_self_of_lt (by rw [← fR.len]; exact hlt), he]
        · rw [Array.getElem?_setIfInBounds_ne hqd]
          exact y.y q ((List.mem_cons.1 hq).resolve_left fun e => hqd e.symm)
      · cases hx
    · cases hx
  · split at hx
    · rename_i fr2 h2 hst
      simp only [Option.some.injEq, Prod.mk.injEq] at hx
      obtain ⟨rfl, rfl, rfl⟩ := hx
      refine ⟨mem_drop h0 hd, ?_⟩
      unfold stepOp at hst
      split at hst
      · rename_i hw
        split at hst
        · rename_i v h2 hv
          simp only [Option.some.injEq, Prod.mk.injEq] at hst
          obtain ⟨rfl, rfl⟩ := hst
          obtain ⟨hok, hs⟩ := opEv_ok hN hcall hv
          refine ⟨hs, fun l J hJ hK m w a r fR j y K Q hQ => ?_⟩
          rw [wantd_ok fR hw]
          simp only [if_true]
          exact opW (hok m w a r fR K Q fun u w' ⟨m', e, r', hru⟩ => hQ _ _ ⟨m', e, r', (fR.evo r e).put hru o.dst, hJ _ _ _ _ _ _ r j e, y.put _ _⟩)
        · cases hst
      · rename_i hw
        simp only [Option.some.injEq, Prod.mk.injEq] at hst
        obtain ⟨rfl, rfl⟩ := hst
        refine ⟨.refl _ _, fun l J hJ hK m w a r fR j y K Q hQ => ?_⟩
        rw [wantd_ok fR hw]
        simp only [Bool.false_eq_true, if_false]
        exact ⟨fun _ _ => trivial, hQ _ _ ⟨m, .refl _ _ _, r, fR.put .no o.dst, j, y.put _ _⟩⟩
      · cases hst
    · cases hx
theorem runY_ok (hN : Named P) {md : FuncId → Nat} {call : Callf} (hcall : CallOK P call) {cfg : Cfg} {hook : Hook} (hHS : ∀ vs h h', hook vs h = some h' → HS cfg h h') {ops : Array Oper} : ∀ (q : List Oper) (ys : List Nat) {fr fr' : List V} {h h' : Heap}, 0 ∈ ys → runY P md call cfg hook ops ys q fr h = some (fr', h') →
    HS cfg h h' ∧ ∀ l J, JEvo J → HookOK P l J hook → ∀ m w a, Rel m h w → FR m h w fr a → J m h w → YAs l ys a → ∀ (Q : Exit → Act → World → Prop), (∀ a' w', AfterY J l m h w fr' h' a' w' → Q .normal a' w') → wpListIn Fence.wide 0 P ops Q q a w
  | [], ys, fr, fr', h, h', h0, hx => by
    simp only [runY, Option.some.injEq, Prod.mk.injEq] at hx
    obtain ⟨rfl, rfl⟩ := hx
    exact ⟨.refl _ _, fun l J hJ hK m w a r fR j y Q hQ => hQ a w ⟨m, .refl _ _ _, r, fR, j, y.zero h0⟩⟩
  | o :: q, ys, fr, fr', h, h', h0, hx => by
    simp only [runY] at hx
    split at hx
    · rename_i fr1 h1 ys1 h2
      obtain ⟨h01, hs1, hstep⟩ := stepY_ok hN hcall hHS h0 h2
      obtain ⟨hs2, hrest⟩ := runY_ok hN hcall hHS q ys1 h01 hx
      refine ⟨hs1.trans hs2, fun l J hJ hK m w a r fR j y Q hQ => ?_⟩
      simp only [wpListIn]
      exact hstep l J hJ hK m w a r fR j y _ Q fun a' w' ⟨m', e, r', f', j', y'⟩ => hrest l J hJ hK m' w' a' r' f' j' y' Q fun a2 w2 k => hQ a2 w2 (k.trans e)
    · cases hx
def GoY (P : Program) (cfg : Cfg) (hook : Hook) (c : Code) (fr : List V) (h : Heap) (s : St) : Prop := HS cfg h s.2.2 ∧
  ∀ l J, JEvo J → HookOK P l J hook → ∀ m w a, Rel m h w → FR m h w fr a → J m h w → YAct l a → ∀ (Q : Exit → Act → World → Prop), (∀ a' w', AfterY J l m h w s.2.1 s.2.2 a' w' → Q (exOf s.1) a' w') → c.wpIn Fence.wide 0 P Q a w
theorem iterY_ok {cfg : Cfg} {hook : Hook} {c : Code} {body : List V → Heap → Option St} (hb : ∀ fr h s, body fr h = some s → GoY P cfg hook c fr h s) : ∀ (n : Nat) (fr : List V) (h : Heap) (s : St), iter body n fr h = some s →
    HS cfg h s.2.2 ∧ ∀ l J, JEvo J → HookOK P l J hook → ∀ m w a, Rel m h w → FR m h w fr a → J m h w → YAct l a → ∀ (Q : Exit → Act → World → Prop), (∀ a' w', AfterY J l m h w s.2.1 s.2.2 a' w' → Q (exOf s.1) a' w') → Code.roundsIn Fence.wide 0 P c Q n a w
  | 0, fr, h, s, hi => by simp [iter] at hi
  | n + 1, fr, h, s, hi => by
    simp only [iter] at hi
    split at hi
    · rename_i fr1 h1 hb1
      obtain ⟨hs1, hw1⟩ := hb _ _ _ hb1
      obtain ⟨hs2, hw2⟩ := iterY_ok hb n fr1 h1 s hi
      refine ⟨hs1.trans hs2, fun l J hJ hK m w a r fR j y Q hQ => ?_⟩
      rw [roundsIn_succ]
      exact hw1 l J hJ hK m w a r fR j y _ fun a' w' ⟨m', e, r', f', j', y'⟩ => hw2 l J hJ hK m' w' a' r' f' j' y' Q fun a2 w2 k => hQ a2 w2 (k.trans e)
    · rename_i hne
      obtain ⟨hs1, hw1⟩ := hb _ _ _ hi
      have hn : s.1 ≠ .normal := by
        intro e
        obtain ⟨e1, f1, h1⟩ := s
        simp only at e
        subst e
        exact hne f1 h1 hi
      refine ⟨hs1, fun l J hJ hK m w a r fR j y Q hQ => ?_⟩
      rw [roundsIn_succ]
      refine hw1 l J hJ hK m w a r fR j y _ fun a' w' k => ?_
      have := hQ a' w' k
      revert this
      cases hs : s.1 with
      | normal => exact absurd hs hn
      | exit id => exact fun x => x
      | ret => exact fun x => x
theorem codeY_ok (hN : Named P) {md : FuncId → Nat} {call : Callf} (hcall : CallOK P call) {cfg : Cfg} {hook : Hook} (hHS : ∀ vs h h', hook vs h = some h' → HS cfg h h') {n : Nat} : ∀ (c : Code) (fr : List V) (h : Heap) (s : St),
    codeY P md call cfg hook n c fr h = some s → GoY P cfg hook c fr h s := by
  intro c
  induction c with
  | skip =>
    intro fr h s hx
    simp only [codeY, Option.some.injEq] at hx
    subst hx
    exact ⟨.refl _ _, fun l J hJ hK m w a r fR j y Q hQ => wpIn_skip (hQ a w ⟨m, .refl _ _ _, r, fR, j, y⟩)⟩
  | exit id =>
    intro fr h s hx
    simp only [codeY, Option.some.injEq] at hx
    subst hx
    exact ⟨.refl _ _, fun l J hJ hK m w a r fR j y Q hQ => wpIn_exit (hQ a w ⟨m, .refl _ _ _, r, fR, j, y⟩)⟩
  | ret =>
    intro fr h s hx
    simp only [codeY, Option.some.injEq] at hx
    subst hx
    exact ⟨.refl _ _, fun l J hJ hK m w a r fR j y Q hQ => wpIn_ret (hQ a w ⟨m, .refl _ _ _, r, fR, j, y⟩)⟩
  | region id ops dr =>
    intro fr h s hx
    cases dr with
    | false =>
      simp only [codeY] at hx
      split at hx
      · rename_i fr' h' hr
        cases hx
        obtain ⟨hs, hw⟩ := runY_ok hN hcall hHS _ _ List.mem_cons_self hr
        exact ⟨hs, fun l J hJ hK m w a r fR j y Q hQ => wpIn_region_list (hw l J hJ hK m w a r fR j y Q hQ)⟩
      · cases hx
    | true => simp [codeY] at hx
  | seq x y ihx ihy =>
    intro fr h s hx
    simp only [codeY] at hx
    split at hx
    · rename_i fr1 h1 h2
      obtain ⟨hs1, hw1⟩ := ihx _ _ _ h2
      obtain ⟨hs2, hw2⟩ := ihy _ _ _ hx
      exact ⟨hs1.trans hs2, fun l J hJ hK m w a r fR j y Q hQ => wpIn_seq (hw1 l J hJ hK m w a r fR j y _ fun a' w' ⟨m', e, r', f', j', y'⟩ => hw2 l J hJ hK m' w' a' r' f' j' y' Q fun a2 w2 k => hQ a2 w2 (k.trans e))⟩
    · rename_i hne
      obtain ⟨hs1, hw1⟩ := ihx _ _ _ hx
      refine ⟨hs1, fun l J hJ hK m w a r fR j y Q hQ => wpIn_seq (hw1 l J hJ hK m w a r fR j y _ fun a' w' k => ?_)⟩
      have := hQ a' w' k
      revert this
      obtain ⟨e1, f1, h1⟩ := s
      cases e1 with
      | normal => exact absurd hx (hne f1 h1)
      | exit id => exact fun x => x
      | ret => exact fun x => x
  | cond c x y ihx ihy =>
    intro fr h s hx
    simp only [codeY] at hx
    split at hx
    · rename_i hc
      obtain ⟨hs, hw⟩ := ihx _ _ _ hx
      refine ⟨hs, fun l J hJ hK m w a r fR j y Q hQ => ?_⟩
      have hcr := ev_R fR hc
      generalize hce : a.eval c = ce at hcr
      cases hcr
      exact wpIn_cond_true hce (hw l J hJ hK m w a r fR j y Q hQ)
    · rename_i hc
      obtain ⟨hs, hw⟩ := ihy _ _ _ hx
      refine ⟨hs, fun l J hJ hK m w a r fR j y Q hQ => ?_⟩
      have hcr := ev_R fR hc
      generalize hce : a.eval c = ce at hcr
      cases hcr
      exact wpIn_cond_false hce (hw l J hJ hK m w a r fR j y Q hQ)
    · cases hx
  | block id b ih =>
    intro fr h s hx
    simp only [codeY] at hx
    split at hx
    · rename_i i fr1 h1 h2
      cases hx
      obtain ⟨hs, hw⟩ := ih _ _ _ h2
      refine ⟨hs, fun l J hJ hK m w a r fR j y Q hQ => wpIn_block (hw l J hJ hK m w a r fR j y _ fun a' w' k => ?_)⟩
      have := hQ a' w' k
      simp only [exOf, Exit.inBlock]
      by_cases hi : i = id
      · rw [if_pos hi]; simpa [hi, exOf] using this
      · rw [if_neg hi]; simpa [hi, exOf] using this
    · rename_i hne
      obtain ⟨hs, hw⟩ := ih _ _ _ hx
      refine ⟨hs, fun l J hJ hK m w a r fR j y Q hQ => wpIn_block (hw l J hJ hK m w a r fR j y _ fun a' w' k => ?_)⟩
      have := hQ a' w' k
      revert this
      obtain ⟨e1, f1, h1⟩ := s
      cases e1 with
      | normal => exact fun x => x
      | exit id => exact absurd hx (hne id f1 h1)
      | ret => exact fun x => x
  | loop b ih =>
    intro fr h s hx
    simp only [codeY] at hx
    obtain ⟨hs, hw⟩ := iterY_ok (c := b) (fun fr h s hb => ih fr h s hb) n fr h s hx
    exact ⟨hs, fun l J hJ hK m w a r fR j y Q hQ => wpIn_loop_rounds n (hw l J hJ hK m w a r fR j y Q hQ)⟩
  | _ => intro fr h s hx; simp [codeY] at hx
theorem Rel.alien {m : Mu} {h : Heap} {w : World} (r : Rel m h w) {b : Nat} {o : Obj} (hb : w.heap[b]? = some o) (h1 : o.isCells = false) (h2 : o.isWalk = false) : ∀ x, live h x → m x ≠ some b := by
  rintro x ⟨cs, hx⟩ hm
  rcases r.blk x cs b hx hm with ⟨arr, T, e, _⟩ | ⟨_, _, _, _, _, _, e, _⟩ | ⟨_, _, _, _, e, _⟩ <;> rw [hb] at e <;> cases e <;> simp_all [Obj.isCells, Obj.isWalk]
theorem Evo.alien {m m' : Mu} {h h' : Heap} {w w' : World} (r : Rel m h w) (e : Evo m h w m' h' w') {b : Nat} {o : Obj} (hb : w.heap[b]? = some o) (h1 : o.isCells = false) (h2 : o.isWalk = false) : w'.heap[b]? = some o :=
  (e.frame b (Array.getElem?_eq_some_iff.1 hb).1 (r.alien hb h1 h2)).trans hb
section
variable {w : World} {l : Nat} {o o' : Obj} (hl : w.heap[l]? = some o) (h1 : o.isCells = false) (h1' : o'.isCells = false)
include hl h1 h1'
theorem rsz_turn (b : Nat) : rsz (w.putObj l o') b = rsz w b := by
  by_cases hb : b = l
  · subst hb
    simp only [rsz, World.putObj_heap_same (Array.getElem?_eq_some_iff.1 hl).1, hl]
    cases o <;> cases o' <;> first | rfl | simp_all [Obj.isCells]
  · simp only [rsz, World.putObj_heap_other hb]
theorem cell_turn (p : Addr) : (w.putObj l o').cell? p = w.cell? p := by
  by_cases hb : p.block = l
  · simp only [World.cell?, hb, World.putObj_heap_same (Array.getElem?_eq_some_iff.1 hl).1, hl]
    cases o <;> cases o' <;> first | rfl | simp_all [Obj.isCells]
  · simp only [World.cell?, World.putObj_heap_other hb]
omit [Base] in
theorem R_turn {m : Mu} {h : Heap} {x : V} {v : Value} (r : R m h w x v) : R m h (w.putObj l o') x v := r.same (by simp) (rsz_turn hl h1 h1') (cell_turn hl h1 h1')
omit [Base] in
theorem Rel_turn {m : Mu} {h : Heap} (r : Rel m h w) (h2 : o.isWalk = false) : Rel m h (w.putObj l o') := by
  refine ⟨r.zo, fun b hb => by rw [World.putObj_size]; exact r.zl b hb, r.inj, fun x cs b hx hm => (r.blk x cs b hx hm).carry (World.putObj_heap_other fun e => ?_) fun _ _ _ => R_turn hl h1 h1'⟩
  subst e
  exact r.alien hl h1 h2 x ⟨cs, hx⟩ hm
end
theorem setTs_FR {m : Mu} {h : Heap} {w : World} : ∀ (ts : List Tmp) (vs : List V) (us : List Value) (fr : List V) (tm : Array Value) (ds : List Deferred), vs.length = us.length → FR m h w fr { tmps := tm, defers := ds } →
    (∀ (i : Nat) (c : V) (v : Value), vs[i]? = some c → us[i]? = some v → R m h w c v) → FR m h w (setTs fr ts vs) { tmps := (ts.zip us).foldl (fun t (p, v) => t.setIfInBounds p v) tm, defers := ds }
  | [], _, _, fr, tm, ds, _, hf, _ => by simpa [setTs] using hf
  | t :: ts, [], [], fr, tm, ds, _, hf, _ => by simpa [setTs] using hf
  | t :: ts, v :: vs, u :: us, fr, tm, ds, hl, hf, hr => by
    have h0 := hf.put (hr 0 v u rfl rfl) (some t)
    exact setTs_FR ts vs us (fr.set t v) (tm.setIfInBounds t u) ds (by simpa using hl) h0 fun i c x hc hx => hr (i + 1) c x (by simpa using hc) (by simpa using hx)
def recOf (fn : FuncId) (tm : Array Value) (ps : Array Tmp) (assign body : Code) (D : Nat) (st : LoopState) : Obj :=
  .loop { state := st, pending := none, fn := fn, tmps := tm, params := ps, assign := assign, body := body, defers := D }
theorem roundY_ok (hN : Named P) {md : FuncId → Nat} {call : Callf} (hcall : CallOK P call) {draw : Drawf} {cfg : Cfg} {n : Nat} {ps : Array Tmp} {assign body : Code} (ha : roundB assign = true) (hb : roundB body = true) {fr : List V} {l fn D : Nat} {a : Act} :
    HookOK P l (fun m h w => FR m h w fr a ∧ w.heap[l]? = some (recOf fn a.tmps ps assign body D .ready) ∧ w.heap[D]? = some (.deferred (some []))) (roundY P md call draw cfg n ps assign body fr) := by
  intro vs h h' hx m w us r ⟨fR, hl, hD⟩ hp
  unfold roundY at hx
  split at hx
  · rename_i hsz
    split at hx
    · rename_i fr2 h2 hx1
      split at hx
      · rename_i fr3 h3 hx2
        cases hx
        refine ⟨fn, _, assign, body, run_yield hl (by rw [hp.1]; exact hsz), roundIn_of_wpIn trivial ?_⟩
        have hfr1 : FR m h w (setTs fr ps.toList vs) { tmps := (ps.zip us).foldl (fun t (p, v) => t.setIfInBounds p v) a.tmps, defers := [] } := by
          have := setTs_FR ps.toList vs us.toList fr a.tmps [] (by simpa using hp.1.symm) ⟨fR.len, fR.slot, Mks.nil fR.defers.1⟩ (fun i c v hc hv => hp.2 i c v hc (by simpa using hv))
          rw [← Array.toList_zip, Array.foldl_toList] at this
          exact this
        refine (codeIn_ok (l := l) (n := 0) hN hcall _ _ _ _ ha hx1).2 m w _ r hfr1 _ ?_
        rintro a1 w1 ⟨m1, e1, r1, f1⟩
        have hl1 := e1.alien r hl rfl rfl
        have hD1 := e1.alien r hD rfl rfl
        refine ⟨_, run_beginRound hl1 rfl, ?_⟩
        have hlt : l < w1.heap.size := (Array.getElem?_eq_some_iff.1 hl1).1
        have hld : D ≠ l := fun e => by rw [e, hl1] at hD1; cases hD1
        generalize hob : recOf fn a.tmps ps assign body D .busy = ob
        have hob' : Obj.loop { ({ state := .ready, pending := none, fn := fn, tmps := a.tmps, params := ps, assign := assign, body := body, defers := D } : Loop) with state := .busy } = ob := hob
        have hc1 : ob.isCells = false := by rw [← hob]; rfl
        have hc2 : ob.isWalk = false := by rw [← hob]; rfl
        rw [hob']
        have rb := Rel_turn hl1 rfl hc1 r1 rfl
        have fb : FR m1 h2 (w1.putObj l ob) fr2 a1 := ⟨f1.len, fun i x v hx hv => R_turn hl1 rfl hc1 (f1.slot i x v hx hv), by
          obtain ⟨h0, Ds, g1, g2, g3⟩ := f1.defers
          refine ⟨by rw [World.putObj_size]; exact h0, Ds, g1, g2, fun E hE => ⟨(g3 E hE).1, ?_⟩⟩
          rw [World.putObj_heap_other fun e => ?_]
          · exact (g3 E hE).2
          · have := (g3 E hE).2
            rw [e, hl1] at this
            cases this⟩
        refine (codeIn_ok (l := l) (n := 0) hN hcall _ _ _ _ hb hx2).2 m1 _ _ rb fb _ ?_
        rintro a3 w3 ⟨m3, e3, r3, f3⟩
        have hlb : (w1.putObj l ob).heap[l]? = some ob := World.putObj_heap_same hlt
        have hDb : (w1.putObj l ob).heap[D]? = some (.deferred (some [])) := (World.putObj_heap_other hld).trans hD1
        have hl3 := e3.alien rb hlb hc1 hc2
        have hD3 := e3.alien rb hDb rfl rfl
        have hl3' : w3.heap[l]? = some (.loop { state := .busy, pending := none, fn := fn, tmps := a.tmps, params := ps, assign := assign, body := body, defers := D }) := by rw [hl3, ← hob]; rfl
        have hlt3 : l < w3.heap.size := (Array.getElem?_eq_some_iff.1 hl3).1
        refine ⟨_, _, run_endRound none hl3', rfl, m3, e1.trans ?_, ?_, ?_⟩
        · have hsz : (w1.putObj l ob).heap.size = w1.heap.size := World.putObj_size
          refine ⟨e3.zeq, e3.len, e3.keep, fun x b hx hm => by rw [← hsz]; exact e3.own x b hx hm, fun b hb' hno => ?_, ?_, fun b hb' => ?_, e3.os, e3.tape, e3.output⟩
          · by_cases hbl : b = l
            · subst hbl
              rw [hl1]
              exact World.putObj_heap_same hlt3
            · rw [World.putObj_heap_other hbl, e3.frame b (by rw [hsz]; exact hb') hno, World.putObj_heap_other hbl]
          · rw [World.putObj_size, ← hsz]; exact e3.size
          · rw [rsz_turn hl3' rfl rfl, ← rsz_turn hl1 rfl hc1]
            exact e3.rs b (by rw [hsz]; exact hb')
        · exact Rel_turn hl3' rfl rfl r3 rfl
        · have e13 : Evo m h w m3 h' (w3.putObj l (recOf fn a.tmps ps assign body D .ready)) := by
            refine e1.trans ?_
            have hsz : (w1.putObj l ob).heap.size = w1.heap.size := World.putObj_size
            refine ⟨e3.zeq, e3.len, e3.keep, fun x b hx hm => by rw [← hsz]; exact e3.own x b hx hm, fun b hb' hno => ?_, ?_, fun b hb' => ?_, e3.os, e3.tape, e3.output⟩
            · by_cases hbl : b = l
              · subst hbl
                rw [hl1]
                exact World.putObj_heap_same hlt3
              · rw [World.putObj_heap_other hbl, e3.frame b (by rw [hsz]; exact hb') hno, World.putObj_heap_other hbl]
            · rw [World.putObj_size, ← hsz]; exact e3.size
            · rw [rsz_turn hl3' rfl rfl, ← rsz_turn hl1 rfl hc1]
              exact e3.rs b (by rw [hsz]; exact hb')
          exact ⟨fR.evo r e13, World.putObj_heap_same hlt3, (World.putObj_heap_other hld).trans hD3⟩
      · cases hx
    · cases hx
  · cases hx
theorem roundY_HS (hN : Named P) {md : FuncId → Nat} {call : Callf} (hcall : CallOK P call) {draw : Drawf} {cfg : Cfg} {n : Nat} {ps : Array Tmp} {assign body : Code} (ha : roundB assign = true) (hb : roundB body = true) {fr : List V} (vs : List V) (h h' : Heap)
    (hx : roundY P md call draw cfg n ps assign body fr vs h = some h') : HS cfg h h' := by
  unfold roundY at hx
  split at hx
  · split at hx
    · rename_i hx1
      split at hx
      · rename_i hx2
        cases hx
        exact (codeIn_ok (l := 0) (n := 0) hN hcall _ _ _ _ ha hx1).1.trans (codeIn_ok (l := 0) (n := 0) hN hcall _ _ _ _ hb hx2).1
      · cases hx
    · cases hx
  · cases hx
theorem evo_below {m : Mu} {h : Heap} {w w' : World} (hb : Below w.heap.size w w') : Evo m h w m h w' where
  zeq := rfl
  len := Nat.le_refl _
  keep := fun _ _ hl => ⟨hl, rfl⟩
  own := fun y c hl hc => .inl ⟨y, hl, hc⟩
  frame := fun b hb' _ => hb.block b hb'
  size := hb.size
  rs := fun c hc => by rw [rsz_of_block (hb.block c hc)]; exact Nat.le_refl _
  os := hb.os
  tape := hb.tape
  output := hb.output
theorem rel_below {m : Mu} {h : Heap} {w w' : World} (r : Rel m h w) (hb : Below w.heap.size w w') : Rel m h w' :=
  ⟨r.zo, fun c hc => Nat.lt_of_lt_of_le (r.zl c hc) hb.size, r.inj, fun y cs c hy hc => (r.blk y cs c hy hc).carry (hb.block c (r.lt y c ⟨cs, hy⟩ hc)) fun _ _ _ hrv => hrv.evo (evo_below hb) r.lt⟩
theorem codeR_ok (hN : Named P) {md : FuncId → Nat} {call : Callf} (hcall : CallOK P call) {draw : Drawf} (hdraw : DrawOK P draw) {cfg : Cfg} {n : Nat} : ∀ (c : Code) (fr : List V) (h : Heap) (s : St),
    codeR P md call draw cfg n c fr h = some s → CodeOK P cfg c fr h s := by
  intro c
  induction c with
  | seq x y ihx ihy =>
    intro fr h s hx
    simp only [codeR] at hx
    split at hx
    · rename_i fr1 h1 h2
      obtain ⟨hs1, hw1⟩ := ihx _ _ _ h2
      obtain ⟨hs2, hw2⟩ := ihy _ _ _ hx
      refine ⟨hs1.trans hs2, fun m w a r fR Q hQ => wp_seq (hw1 m w a r fR _ fun a' w' ⟨m', e, r', f'⟩ => hw2 m' w' a' r' f' Q fun a2 w2 k => hQ a2 w2 (k.trans e))⟩
    · rename_i hne
      obtain ⟨hs1, hw1⟩ := ihx _ _ _ hx
      refine ⟨hs1, fun m w a r fR Q hQ => wp_seq (hw1 m w a r fR _ fun a' w' k => ?_)⟩
      have := hQ a' w' k
      revert this
      obtain ⟨e1, f1, h1⟩ := s
      cases e1 with
      | normal => exact absurd hx (hne f1 h1)
      | exit id => exact fun x => x
      | ret => exact fun x => x
  | cond c x y ihx ihy =>
    intro fr h s hx
    simp only [codeR] at hx
    split at hx
    · rename_i hc
      obtain ⟨hs, hw⟩ := ihx _ _ _ hx
      refine ⟨hs, fun m w a r fR Q hQ => ?_⟩
      have hcr := ev_R fR hc
      generalize hce : a.eval c = ce at hcr
      cases hcr
      exact wp_cond_true hce (hw m w a r fR Q hQ)
    · rename_i hc
      obtain ⟨hs, hw⟩ := ihy _ _ _ hx
      refine ⟨hs, fun m w a r fR Q hQ => ?_⟩
      have hcr := ev_R fR hc
      generalize hce : a.eval c = ce at hcr
      cases hcr
      exact wp_cond_false hce (hw m w a r fR Q hQ)
    · cases hx
  | block id b ih =>
    intro fr h s hx
    simp only [codeR] at hx
    split at hx
    · rename_i i fr1 h1 h2
      cases hx
      obtain ⟨hs, hw⟩ := ih _ _ _ h2
      refine ⟨hs, fun m w a r fR Q hQ => wp_block (hw m w a r fR _ fun a' w' k => ?_)⟩
      have := hQ a' w' k
      simp only [exOf, Exit.inBlock]
      by_cases hi : i = id
      · rw [if_pos hi]; simpa [hi, exOf] using this
      · rw [if_neg hi]; simpa [hi, exOf] using this
    · rename_i hne
      obtain ⟨hs, hw⟩ := ih _ _ _ hx
      refine ⟨hs, fun m w a r fR Q hQ => wp_block (hw m w a r fR _ fun a' w' k => ?_)⟩
      have := hQ a' w' k
      revert this
      obtain ⟨e1, f1, h1⟩ := s
      cases e1 with
      | normal => exact fun x => x
      | exit id => exact absurd hx (hne id f1 h1)
      | ret => exact fun x => x
  | rangeFunc g ps assign body _ _ =>
    intro fr h s hx
    simp only [codeR] at hx
    split at hx
    · rename_i gf caps hg
      split at hx
      · rename_i fn hfn
        split at hx
        · rename_i c hbody
          split at hx
          · rename_i hrb
            simp only [Bool.and_eq_true, Array.isEmpty_iff] at hrb
            obtain ⟨⟨ha, hb⟩, hres⟩ := hrb
            have key : ∀ e fr' h', codeY P md call cfg (roundY P md call draw cfg n ps assign body fr) n c ((.any :: caps) ++ List.replicate (fn.ntmps - (caps.length + 1)) .no) h = some (e, fr', h') → (∀ id, e ≠ .exit id) →
                CodeOK P cfg (.rangeFunc g ps assign body) fr h (.normal, fr, h') := by
              intro e fr' h' hy hne
              obtain ⟨hs, hw⟩ := codeY_ok hN hcall (roundY_HS hN hcall ha hb) _ _ _ _ hy
              refine ⟨hs, fun m w a r fR Q hQ => wpIn_wide.1 (wpIn_rangeFunc (n := 0) fun fn' _ => ?_)⟩
              have hfr := ev_R fR hg
              generalize hge : a.eval g = ge at hfr
              obtain ⟨W1, hW1⟩ : ∃ W1, (w.alloc (.deferred (some []))).alloc (recOf fn' a.tmps ps assign body w.heap.size .ready) = W1 := ⟨_, rfl⟩
              cases hfr with
              | func hl1 hr1 hl2 hr2 =>
                rename_i fs cs
                have hfs : fs = #[] := Array.eq_empty_of_size_eq_zero (by simpa using hl1)
                subst hfs
                have hL1 : W1.heap[w.heap.size + 1]? = some (recOf fn' a.tmps ps assign body w.heap.size .ready) := by
                  rw [← hW1]; have := World.alloc_heap_new (w.alloc (.deferred (some []))) (recOf fn' a.tmps ps assign body w.heap.size .ready); rwa [World.size_alloc] at this
                have hK1 : W1.heap[w.heap.size]? = some (.deferred (some [])) := by
                  rw [← hW1]; exact (Below.heap_alloc _ _ _ (by simp)).trans (World.alloc_heap_new w _)
                have hb1 : Below w.heap.size w W1 := by
                  rw [← hW1]; exact ((Below.refl _ w).alloc (Nat.le_refl _) _).alloc (by simp) _
                have hsz1 : W1.heap.size = w.heap.size + 2 := by rw [← hW1]; simp
                refine ⟨w.heap.size + 1, [{ target := .collected w.heap.size, args := #[] }], W1, { target := .fn (.func gf) cs, args := #[.func (.yield (w.heap.size + 1)) #[] #[]] }, W1, gf,
                  #[.func (.yield (w.heap.size + 1)) #[] #[]] ++ cs, W1, ?_, ?_, fun _ _ => trivial, ?_, fun he => by simp [Fence.wide] at he, ?_⟩
                · rw [← hW1]; exact run_enterLoop_outer _ _ _ _ _
                · simp only [resolve, hge]
                  simp [Deferred.ofValue, Act.eval]
                · simp only [invoke, callFunc, run_program, hfn, hN gf fn hfn, hbody, Sem.run_bind, Result.andThen_ok, Option.isNone_some, Bool.false_eq_true, if_false, Sem.run_pure]
                · have e1 := evo_below (m := m) (h := h) hb1
                  have r1 := rel_below r hb1
                  refine callsIn_of_wp hfn hbody trivial (hw (w.heap.size + 1) _ ?_ (roundY_ok hN hcall ha hb) m W1 _ r1 ?_ ⟨fR.evo r e1, hL1, hK1⟩ ⟨fun s hs => by rw [List.mem_singleton.1 hs]; exact (Array.getElem?_append_left (by simp; omega)).trans ((Array.getElem?_append_left (by simp)).trans rfl), rfl⟩ _ ?_) rfl
                  · rintro m w2 h2 m' w2' h2' r2 ⟨f2, hl2', hD2⟩ e2
                    exact ⟨f2.evo r2 e2, e2.alien r2 hl2' rfl rfl, e2.alien r2 hD2 rfl rfl⟩
                  · refine ⟨by simp [hl2]; omega, fun i x v hx' hv => ?_, Mks.nil (Nat.le_trans fR.defers.1 (by omega))⟩
                    rcases i with _ | i
                    · simp only [List.cons_append, List.getElem?_cons_zero, Option.some.injEq] at hx'
                      subst hx'
                      exact .any v
                    · by_cases hi : i < caps.length
                      · rw [List.cons_append, List.getElem?_cons_succ, List.getElem?_append_left hi] at hx'
                        rw [Array.getElem?_append_left (by simp [hl2]; omega), Array.getElem?_append_right (by simp)] at hv
                        exact (hr2 i x v hx' (by simpa using hv)).evo e1 r.lt
                      · rw [List.cons_append, List.getElem?_cons_succ, List.getElem?_append_right (by omega)] at hx'
                        rw [Array.getElem?_append_right (by simp [hl2]; omega)] at hv
                        simp only [List.getElem?_replicate, Array.getElem?_replicate] at hx' hv
                        split at hx'
                        · split at hv
                          · cases hx'; cases hv; exact .no
                          · cases hv
                        · cases hx'
                  · rintro a' w' ⟨m', e', r', f', ⟨fR', hl', hD'⟩, y'⟩
                    have fin : ∃ v, (results fn a'.tmps).run P w' = .ok v w' ∧ rangePost Fence.wide 0 P (w.heap.size + 1) Q { a with defers := [{ target := .collected w.heap.size, args := #[] }] ++ a.defers } (.returned v) w' := by
                      refine ⟨_, results_none hres _ _ _, none, _, run_endLoop hl' (by simp), ?_⟩
                      refine hQ _ _ ⟨m', ?_, Rel_turn hl' rfl rfl r' rfl, fR'.len, fun i x v hx hv => R_turn hl' rfl rfl (fR'.slot i x v hx hv), ?_⟩
                      · have e2 := e1.trans e'
                        refine ⟨e2.zeq, e2.len, e2.keep, e2.own, fun b hb' hno => ?_, by rw [World.putObj_size]; exact e2.size, fun b hb' => by rw [rsz_turn hl' rfl rfl]; exact e2.rs b hb', e2.os, e2.tape, e2.output⟩
                        rw [World.putObj_heap_other (by omega)]
                        exact e2.frame b hb' hno
                      · obtain ⟨h0, Ds, g1, g2, g3⟩ := fR.defers
                        obtain ⟨h0', _⟩ := fR'.defers
                        have hlt : ∀ E ∈ Ds, E < w.heap.size := fun E hE => (Array.getElem?_eq_some_iff.1 (g3 E hE).2).1
                        refine ⟨by rw [World.putObj_size]; exact h0', w.heap.size :: Ds, List.nodup_cons.2 ⟨fun hm => Nat.lt_irrefl _ (hlt _ hm), g1⟩, by rw [g2]; rfl, fun E hE => ?_⟩
                        rcases List.mem_cons.1 hE with rfl | hE'
                        · exact ⟨h0, (World.putObj_heap_other (by omega)).trans hD'⟩
                        · refine ⟨(g3 E hE').1, (World.putObj_heap_other (by have := hlt E hE'; omega)).trans ?_⟩
                          exact (e1.trans e').alien r (g3 E hE').2 rfl rfl
                    cases e with
                    | normal => exact ⟨y'.d, fin⟩
                    | exit id => exact absurd rfl (hne id)
                    | ret => exact ⟨y'.d, fin⟩
            split at hx
            · cases hx
            · rename_i e fr' h' hne hy
              cases hx
              exact key e fr' h' hy hne
            · cases hx
          · cases hx
        · cases hx
      · cases hx
    · cases hx
  | _ => intro fr h s hx; exact code_ok hN hcall hdraw _ _ _ _ hx
end
def rfPrim (P : Program) (md : FuncId → Nat) (prim : FuncId → Option Prim) (n d : Nat) (f : FuncId) : Prim := fun cfg args h => match P.funcs[f]? with
  | none => none
  | some fn => match fn.body with
    | none => none
    | some c => match codeR P md (callN P md prim n d) (drawR P md (callN P md prim n d)) cfg n c (args ++ List.replicate (fn.ntmps - args.length) .no) h with
      | some (.exit _, _, _) => none
      | some (_, fr, h') => match resV P fr h' fn.results.toList with
        | some vs => some (oneOf vs, h')
        | none => none
      | none => none
theorem rfPrim_ok {P : Program} {md : FuncId → Nat} {prim : FuncId → Option Prim} {n d : Nat} {f : FuncId} (hm : P.follows .mixedOrders = true) (hN : Named P) (hp : ∀ f p, prim f = some p → PrimOK P f p) : PrimOK P f (rfPrim P md prim n d f) := by
  intro cfg args h r h' hx
  unfold rfPrim at hx
  split at hx
  · cases hx
  · rename_i fn hf
    split at hx
    · cases hx
    · rename_i c hb
      split at hx
      · cases hx
      · rename_i e fr h2 hne hc
        split at hx
        · rename_i xs hxs
          simp only [Option.some.injEq, Prod.mk.injEq] at hx
          obtain ⟨rfl, rfl⟩ := hx
          have hcall := callN_ok (md := md) (n := n) hm hN hp d
          exact fn_of_code hf hb hne (fun b => codeR_ok hN hcall (drawR_ok hm hN hcall) _ _ _ _ hc) hxs
        · cases hx
      · cases hx
end Go.Ab
namespace Go.Ab
def primB (b : FuncId → Option Prim) (l : List (FuncId × Tbl)) (f : FuncId) : Option Prim := match primOf l f with
  | some p => some p
  | none => b f
variable {P : Program}
theorem primB_ok {b : FuncId → Option Prim} (hb : ∀ f p, b f = some p → PrimOK P f p) {l : List (FuncId × Tbl)} (hl : ∀ f t, (f, t) ∈ l → PrimOK P f (memoP t)) : ∀ f p, primB b l f = some p → PrimOK P f p := by
  intro f p h
  unfold primB at h
  split at h
  · rename_i he
    cases h
    exact primOf_ok l hl f p he
  · exact hb f p h
theorem memo_of {f : FuncId} {t : Tbl} {q : Prim} (hq : PrimOK P f q) (ht : ∀ k r, (k, r) ∈ t → q k.cfg k.args k.h = some r) : PrimOK P f (memoP t) := by
  intro cfg args h r h' hx
  exact hq _ _ _ _ _ (ht _ _ (find_mem t cfg args h _ hx))
theorem rowsq_nil {q : Prim} : ∀ (k : Key) (r : V × Heap), (k, r) ∈ ([] : Tbl) → q k.cfg k.args k.h = some r := fun _ _ h => by simp at h
theorem rowsq_cons {q : Prim} {k : Key} {r : V × Heap} {t : Tbl} (hr : q k.cfg k.args k.h = some r) (ht : ∀ k r, (k, r) ∈ t → q k.cfg k.args k.h = some r) : ∀ k' r', (k', r') ∈ (k, r) :: t → q k'.cfg k'.args k'.h = some r' := by
  intro k' r' hm
  rcases List.mem_cons.1 hm with hm | hm
  · cases hm; exact hr
  · exact ht k' r' hm
end Go.Ab
