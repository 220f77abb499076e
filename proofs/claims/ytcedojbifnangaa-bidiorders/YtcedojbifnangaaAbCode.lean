/- Statements, loops, functions. -/
import Derived.Test.YtcedojbifnangaaAbCall
import Derived.Scope
namespace Go.Ab

/-- No function of the program bears the one name that a call looks for. -/
def Named (P : Program) : Prop := ∀ (g : Nat) (fn : Func), P.funcs[g]? = some fn → (fn.name == "runtime.NumGoroutine") = false

section
variable {P : Program} {m : Mu} {h : Heap} {w : World}

theorem wantd_ok {ops : Array Oper} {fr : List V} {a : Act} {o : Oper} {b : Bool} (f : FR m h w fr a) (hw : wantd ops fr o = some b) : Region.wanted o (yielded ops a.tmps) = b := by
  unfold wantd at hw
  split at hw
  · rename_i hg; cases hw; simp [Region.wanted, hg]
  · rename_i j want hg
    split at hw
    · rename_i p hp
      split at hw
      · rename_i d hd
        split at hw
        · rename_i b' hb
          cases hw
          have hlt : d < a.tmps.size := by rw [← f.len]; exact (List.getElem?_eq_some_iff.1 hb).1
          have hr := f.slot d _ _ hb (Array.getElem?_eq_getElem hlt)
          generalize hv : a.tmps[d] = v at hr
          cases hr
          have : a.tmps[d]? = some (.bool b') := by rw [Array.getElem?_eq_getElem hlt, hv]
          simp [Region.wanted, hg, yielded, hp, hd, this]
        · rename_i hb
          cases hw
          have hlt : d < a.tmps.size := by rw [← f.len]; exact (List.getElem?_eq_some_iff.1 hb).1
          have hr := f.slot d _ _ hb (Array.getElem?_eq_getElem hlt)
          generalize hv : a.tmps[d] = v at hr
          cases hr
          have : a.tmps[d]? = some undef := by rw [Array.getElem?_eq_getElem hlt, hv]
          simp [Region.wanted, hg, yielded, hp, hd, this, undef]
        · cases hw
      · cases hw
    · cases hw

theorem append_PW {xs ys : List V} {us vs : Array Value} (h1 : PW m h w xs us) (h2 : PW m h w ys vs) : PW m h w (xs ++ ys) (us ++ vs) := by
  have := PW.append (xs := us.toList) (ys := vs.toList) (by simpa using h1) (by simpa using h2)
  have e : (us.toList ++ vs.toList).toArray = us ++ vs := by apply Array.ext'; simp
  rwa [e] at this

theorem opV_HS {cfg : Cfg} {fr : List V} {h h' : Heap} {op : Op} {x : V} (hx : opV P cfg fr h op = some (x, h')) : HS cfg h h' := by
  unfold opV at hx
  repeat' split at hx
  all_goals first
    | (cases hx; done)
    | (obtain ⟨_, rfl⟩ := map_pair hx; exact .refl _ _)
    | (cases hx; exact .push _ _ _)
    | exact .buildSlice hx
    | exact .makeSlice hx
    | exact .conv hx
    | exact .append hx
    | exact .makeMap hx
    | (simp only [Option.some.injEq, Prod.mk.injEq] at hx; obtain ⟨_, rfl⟩ := hx; first | exact .refl _ _ | exact .store ‹_› | exact .clear ‹_› | exact .mapUpdate ‹_›)

/-- One operation, calls included. -/
theorem opEv_ok (hN : Named P) {md : FuncId → Nat} {call : Callf} (hcall : CallOK P call) {cfg : Cfg} {fr : List V} {h h' : Heap} {o : Oper} {x : V} (hx : opEv P md call cfg fr h o.op = some (x, h')) :
    (∀ m w a, Rel m h w → FR m h w fr a → ∀ (K : Act → World → Prop) (Q : Exit → Act → World → Prop), (∀ v w', Out m h w x h' v w' → K (a.put o.dst v) w') → o.wp P a w K Q) ∧ HS cfg h h' := by
  unfold opEv at hx
  split at hx
  · rename_i f args tys hop
    split at hx
    · rename_i g first captured vs hf hvs
      obtain ⟨hs, ⟨fn, hfn, hbody⟩, hsound⟩ := callM_ok hcall hx
      refine ⟨fun m w a r fR K Q hK => ?_, hs⟩
      have hfr := ev_R fR hf
      obtain ⟨hl, hr⟩ := evAll_R fR hvs
      generalize hfe : a.eval f = fe at hfr
      cases hfr with
      | func hl1 hr1 hl2 hr2 =>
        rename_i fs cs
        have hpw : PW m h w ((first ++ vs) ++ captured) ((fs ++ args.map a.eval) ++ cs) :=
          append_PW (append_PW ⟨hl1, hr1⟩ ⟨by simpa using hl, fun i c v hc hv => hr i c v hc (by simpa using hv)⟩) ⟨hl2, hr2⟩
        have hrun : (execOp a.eval o).run P w = .ok (.enter g ((fs ++ args.map a.eval) ++ cs)) w := by
          simp only [execOp, hop, Sem.run_bind, resolve, hfe, Deferred.ofValue, Sem.run_pure, Result.andThen_ok, invoke, callFunc, run_program, hfn, hN g fn hfn, hbody, Bool.false_eq_true, if_false]
        unfold Oper.wp
        rw [hrun]
        refine (hsound m w _ r hpw).mono ?_
        rintro e w' ⟨v, rfl, ho⟩
        exact hK v w' ho
    · cases hx
  · refine ⟨fun m w a r fR K Q hK => ?_, opV_HS hx⟩
    obtain ⟨⟨nx, v, w', hrun, hnx, ho⟩, _⟩ := opV_ok r fR rfl hx
    unfold Oper.wp
    rw [hrun]
    rcases hnx with rfl | ⟨rfl, rfl⟩
    · exact hK v w' ho
    · exact hK undef w' ho

/-- What stands behind a piece of code. -/
def After (m : Mu) (h : Heap) (w : World) (fr' : List V) (h' : Heap) (a' : Act) (w' : World) : Prop := ∃ m', Evo m h w m' h' w' ∧ Rel m' h' w' ∧ FR m' h' w' fr' a'

theorem After.trans {fr2 : List V} {h1 h2 : Heap} {a2 : Act} {w1 w2 : World} {m1 : Mu} (e : Evo m h w m1 h1 w1) (k : After m1 h1 w1 fr2 h2 a2 w2) : After m h w fr2 h2 a2 w2 :=
  let ⟨m', e', r', f'⟩ := k
  ⟨m', e.trans e', r', f'⟩

theorem stepOp_ok (hN : Named P) {md : FuncId → Nat} {call : Callf} (hcall : CallOK P call) {cfg : Cfg} {ops : Array Oper} {fr fr' : List V} {h h' : Heap} {o : Oper} (hx : stepOp P md call cfg ops o fr h = some (fr', h')) :
    HS cfg h h' ∧ ∀ m w a, Rel m h w → FR m h w fr a → ∀ (K : Act → World → Prop) (Q : Exit → Act → World → Prop), (∀ a' w', After m h w fr' h' a' w' → K a' w') →
      if Region.wanted o (yielded ops a.tmps) then o.wp P a w K Q ∨ (o.asks P a w ∧ LetsOut Q) else K (a.put o.dst undef) w := by
  unfold stepOp at hx
  split at hx
  · rename_i hw
    split at hx
    · rename_i v h2 hv
      simp only [Option.some.injEq, Prod.mk.injEq] at hx
      obtain ⟨rfl, rfl⟩ := hx
      obtain ⟨hok, hs⟩ := opEv_ok hN hcall hv
      refine ⟨hs, fun m w a r fR K Q hK => ?_⟩
      rw [wantd_ok fR hw]
      simp only [if_true]
      refine .inl (hok m w a r fR K Q fun u w' ⟨m', e, r', hr⟩ => hK _ _ ⟨m', e, r', (fR.evo r e).put hr o.dst⟩)
    · cases hx
  · rename_i hw
    simp only [Option.some.injEq, Prod.mk.injEq] at hx
    obtain ⟨rfl, rfl⟩ := hx
    refine ⟨.refl _ _, fun m w a r fR K Q hK => ?_⟩
    rw [wantd_ok fR hw]
    simp only [Bool.false_eq_true, if_false]
    exact hK _ _ ⟨m, .refl _ _ _, r, fR.put .no o.dst⟩
  · cases hx

theorem runOps_ok (hN : Named P) {md : FuncId → Nat} {call : Callf} (hcall : CallOK P call) {cfg : Cfg} {ops : Array Oper} : ∀ (l : List Oper) {fr fr' : List V} {h h' : Heap}, runOps P md call cfg ops l fr h = some (fr', h') →
    HS cfg h h' ∧ ∀ m w a, Rel m h w → FR m h w fr a → ∀ (Q : Exit → Act → World → Prop), (∀ a' w', After m h w fr' h' a' w' → Q .normal a' w') → wpList P ops Q l a w
  | [], fr, fr', h, h', hx => by
    simp only [runOps, Option.some.injEq, Prod.mk.injEq] at hx
    obtain ⟨rfl, rfl⟩ := hx
    exact ⟨.refl _ _, fun m w a r fR Q hQ => hQ a w ⟨m, .refl _ _ _, r, fR⟩⟩
  | o :: l, fr, fr', h, h', hx => by
    simp only [runOps] at hx
    split at hx
    · rename_i fr1 h1 h2
      obtain ⟨hs1, hstep⟩ := stepOp_ok hN hcall h2
      obtain ⟨hs2, hrest⟩ := runOps_ok hN hcall l hx
      refine ⟨hs1.trans hs2, fun m w a r fR Q hQ => ?_⟩
      simp only [wpList]
      exact hstep m w a r fR _ Q fun a' w' ⟨m', e, r', f'⟩ => hrest m' w' a' r' f' Q fun a2 w2 k => hQ a2 w2 (k.trans e)
    · cases hx

def exOf : Ex → Exit
  | .normal => .normal
  | .exit id => .exit id
  | .ret => .ret

/-- The evaluator's way of a region that draws its order. -/
def DrawOK (P : Program) (draw : Drawf) : Prop := ∀ cfg ops fr h fr' h', draw cfg ops fr h = some (fr', h') → HS cfg h h' ∧
  ∀ m w a id, Rel m h w → FR m h w fr a → ∀ (Q : Exit → Act → World → Prop), (∀ a' w', After m h w fr' h' a' w' → Q .normal a' w') → (Code.region id ops true).wp P Q a w

/-- A piece of code goes as the evaluator says. -/
def CodeOK (P : Program) (cfg : Cfg) (c : Code) (fr : List V) (h : Heap) (s : St) : Prop := HS cfg h s.2.2 ∧
  ∀ m w a, Rel m h w → FR m h w fr a → ∀ (Q : Exit → Act → World → Prop), (∀ a' w', After m h w s.2.1 s.2.2 a' w' → Q (exOf s.1) a' w') → c.wp P Q a w

theorem iter_ok {cfg : Cfg} {c : Code} {body : List V → Heap → Option St} (hb : ∀ fr h s, body fr h = some s → CodeOK P cfg c fr h s) : ∀ (n : Nat) (fr : List V) (h : Heap) (s : St), iter body n fr h = some s →
    HS cfg h s.2.2 ∧ s.1 ≠ .normal ∧ ∀ m w a, Rel m h w → FR m h w fr a → ∀ (Q : Exit → Act → World → Prop), (∀ a' w', After m h w s.2.1 s.2.2 a' w' → Q (exOf s.1) a' w') → Code.rounds P c Q n a w
  | 0, fr, h, s, hi => by simp [iter] at hi
  | n + 1, fr, h, s, hi => by
    simp only [iter] at hi
    split at hi
    · rename_i fr1 h1 hb1
      obtain ⟨hs1, hw1⟩ := hb _ _ _ hb1
      obtain ⟨hs2, hne, hw2⟩ := iter_ok hb n fr1 h1 s hi
      refine ⟨hs1.trans hs2, hne, fun m w a r fR Q hQ => ?_⟩
      rw [rounds_succ]
      exact hw1 m w a r fR _ fun a' w' ⟨m', e, r', f'⟩ => hw2 m' w' a' r' f' Q fun a2 w2 k => hQ a2 w2 (k.trans e)
    · rename_i hne
      obtain ⟨hs1, hw1⟩ := hb _ _ _ hi
      have hn : s.1 ≠ .normal := by
        intro e
        obtain ⟨e1, f1, h1⟩ := s
        simp only at e
        subst e
        exact hne f1 h1 hi
      refine ⟨hs1, hn, fun m w a r fR Q hQ => ?_⟩
      rw [rounds_succ]
      refine hw1 m w a r fR _ fun a' w' k => ?_
      have := hQ a' w' k
      revert this
      cases hs : s.1 with
      | normal => exact absurd hs hn
      | exit id => exact fun x => x
      | ret => exact fun x => x

theorem code_ok (hN : Named P) {md : FuncId → Nat} {call : Callf} (hcall : CallOK P call) {draw : Drawf} (hdraw : DrawOK P draw) {cfg : Cfg} {n : Nat} : ∀ (c : Code) (fr : List V) (h : Heap) (s : St),
    code P md call draw cfg n c fr h = some s → CodeOK P cfg c fr h s := by
  intro c
  induction c with
  | skip =>
    intro fr h s hx
    simp only [code, Option.some.injEq] at hx
    subst hx
    exact ⟨.refl _ _, fun m w a r fR Q hQ => wp_skip (hQ a w ⟨m, .refl _ _ _, r, fR⟩)⟩
  | region id ops dr =>
    intro fr h s hx
    cases dr with
    | false =>
      simp only [code] at hx
      split at hx
      · rename_i fr' h' hr
        cases hx
        obtain ⟨hs, hw⟩ := runOps_ok hN hcall _ hr
        exact ⟨hs, fun m w a r fR Q hQ => wp_region_list (hw m w a r fR Q hQ)⟩
      · cases hx
    | true =>
      simp only [code] at hx
      split at hx
      · rename_i fr' h' hr
        cases hx
        obtain ⟨hs, hw⟩ := hdraw _ _ _ _ _ _ hr
        exact ⟨hs, fun m w a r fR Q hQ => hw m w a id r fR Q hQ⟩
      · cases hx
  | seq x y ihx ihy =>
    intro fr h s hx
    simp only [code] at hx
    split at hx
    · rename_i fr1 h1 h2
      obtain ⟨hs1, hw1⟩ := ihx _ _ _ h2
      obtain ⟨hs2, hw2⟩ := ihy _ _ _ hx
      refine ⟨hs1.trans hs2, fun m w a r fR Q hQ => wp_seq (hw1 m w a r fR _ fun a' w' ⟨m', e, r', f'⟩ => hw2 m' w' a' r' f' Q fun a2 w2 k => hQ a2 w2 (k.trans e))⟩
    · rename_i hne
      obtain ⟨hs1, hw1⟩ := ihx _ _ _ hx
      refine ⟨hs1, fun m w a r fR Q hQ => wp_seq (hw1 m w a r fR _ fun a' w' k => ?_)⟩
      have := hQ a' w' k
      revert this
      obtain ⟨e1, f1, h1⟩ := s
      cases e1 with
      | normal => exact absurd hx (hne f1 h1)
      | exit id => exact fun x => x
      | ret => exact fun x => x
  | cond c x y ihx ihy =>
    intro fr h s hx
    simp only [code] at hx
    split at hx
    · rename_i hc
      obtain ⟨hs, hw⟩ := ihx _ _ _ hx
      refine ⟨hs, fun m w a r fR Q hQ => ?_⟩
      have hcr := ev_R fR hc
      generalize hce : a.eval c = ce at hcr
      cases hcr
      exact wp_cond_true hce (hw m w a r fR Q hQ)
    · rename_i hc
      obtain ⟨hs, hw⟩ := ihy _ _ _ hx
      refine ⟨hs, fun m w a r fR Q hQ => ?_⟩
      have hcr := ev_R fR hc
      generalize hce : a.eval c = ce at hcr
      cases hcr
      exact wp_cond_false hce (hw m w a r fR Q hQ)
    · cases hx
  | block id b ih =>
    intro fr h s hx
    simp only [code] at hx
    split at hx
    · rename_i i fr1 h1 h2
      cases hx
      obtain ⟨hs, hw⟩ := ih _ _ _ h2
      refine ⟨hs, fun m w a r fR Q hQ => wp_block (hw m w a r fR _ fun a' w' k => ?_)⟩
      have := hQ a' w' k
      simp only [exOf, Exit.inBlock]
      by_cases hi : i = id
      · rw [if_pos hi]; simpa [hi, exOf] using this
      · rw [if_neg hi]; simpa [hi, exOf] using this
    · rename_i hne
      obtain ⟨hs, hw⟩ := ih _ _ _ hx
      refine ⟨hs, fun m w a r fR Q hQ => wp_block (hw m w a r fR _ fun a' w' k => ?_)⟩
      have := hQ a' w' k
      revert this
      obtain ⟨e1, f1, h1⟩ := s
      cases e1 with
      | normal => exact fun x => x
      | exit id => exact absurd hx (hne id f1 h1)
      | ret => exact fun x => x
  | loop b ih =>
    intro fr h s hx
    simp only [code] at hx
    obtain ⟨hs, _, hw⟩ := iter_ok (c := b) (fun fr h s hb => ih fr h s hb) n fr h s hx
    exact ⟨hs, fun m w a r fR Q hQ => wp_loop_rounds n (hw m w a r fR Q hQ)⟩
  | exit id =>
    intro fr h s hx
    simp only [code, Option.some.injEq] at hx
    subst hx
    exact ⟨.refl _ _, fun m w a r fR Q hQ => wp_exit (hQ a w ⟨m, .refl _ _ _, r, fR⟩)⟩
  | ret =>
    intro fr h s hx
    simp only [code, Option.some.injEq] at hx
    subst hx
    exact ⟨.refl _ _, fun m w a r fR Q hQ => wp_ret (hQ a w ⟨m, .refl _ _ _, r, fR⟩)⟩
  | rangeFunc => intro fr h s hx; simp [code] at hx
  | scope => intro fr h s hx; simp [code] at hx
  | label => intro fr h s hx; simp [code] at hx
  | goto => intro fr h s hx; simp [code] at hx
  | refuse => intro fr h s hx; simp [code] at hx

def resOne (tmps : Array Value) : ResultVar → Sem Value
  | .tmp t => pure (tmps.getD t undef)
  | .cell b t => do loadVar t (← asAddr (tmps.getD b undef))

theorem resV_ok (r : Rel m h w) {fr : List V} {a : Act} (fR : FR m h w fr a) : ∀ (l : List ResultVar) (xs : List V), resV P fr h l = some xs →
    ∃ vs : List Value, (l.mapM (resOne a.tmps)).run P w = .ok vs w ∧ vs.length = xs.length ∧ ∀ (i : Nat) (c : V) (v : Value), xs[i]? = some c → vs[i]? = some v → R m h w c v
  | [], xs, hx => by
    simp [resV] at hx
    subst hx
    exact ⟨[], by simp, rfl, by simp⟩
  | .tmp t :: l, xs, hx => by
    simp only [resV] at hx
    split at hx
    · rename_i x hfx
      split at hx
      · rename_i ys hys
        cases hx
        obtain ⟨vs, h1, h2, h3⟩ := resV_ok r fR l ys hys
        have hr : R m h w x (a.tmps.getD t undef) := ev_R fR (o := .tmp t) hfx
        refine ⟨a.tmps.getD t undef :: vs, ?_, by simp [h2], fun i c v hc hv => ?_⟩
        · rw [List.mapM_cons]
          simp only [resOne, Sem.run_bind, Sem.run_pure, Result.andThen_ok, h1]
        · cases i with
          | zero => simp only [List.getElem?_cons_zero, Option.some.injEq] at hc hv; subst hc hv; exact hr
          | succ i => exact h3 i c v (by simpa using hc) (by simpa using hv)
      · cases hx
    · cases hx
  | .cell b t :: l, xs, hx => by
    simp only [resV] at hx
    split at hx
    · rename_i p hfp
      split at hx
      · rename_i x hlx
        split at hx
        · rename_i ys hys
          cases hx
          obtain ⟨vs, h1, h2, h3⟩ := resV_ok r fR l ys hys
          have hp : R m h w p (a.tmps.getD b undef) := ev_R fR (o := .tmp b) hfp
          obtain ⟨v, hv, hr⟩ := load_ok (P := P) r hp hlx
          have hload : (do loadVar t (← asAddr (a.tmps.getD b undef)) : Sem Value).run P w = .ok v w := by
            have : ∃ ad, a.tmps.getD b undef = .pointer (some ad) := by
              unfold loadV at hlx
              split at hlx
              · generalize a.tmps.getD b undef = q at hp; cases hp; exact ⟨_, rfl⟩
              · generalize a.tmps.getD b undef = q at hp; cases hp; exact ⟨_, rfl⟩
              · cases hlx
            obtain ⟨ad, had⟩ := this
            rw [had] at hv ⊢
            simpa [Instr.loadAt, Instr.sureAddr, asAddr] using hv
          refine ⟨v :: vs, ?_, by simp [h2], fun i c u hc hu => ?_⟩
          · rw [List.mapM_cons]
            rw [Sem.run_bind, show (resOne a.tmps (.cell b t)).run P w = .ok v w from hload]
            simp only [Sem.run_bind, Result.andThen_ok, h1, Sem.run_pure]
          · cases i with
            | zero => simp only [List.getElem?_cons_zero, Option.some.injEq] at hc hu; subst hc hu; exact hr
            | succ i => exact h3 i c u (by simpa using hc) (by simpa using hu)
        · cases hx
      · cases hx
    · cases hx

theorem fnEv_ok (hN : Named P) {md : FuncId → Nat} {call : Callf} (hcall : CallOK P call) {draw : Drawf} (hdraw : DrawOK P draw) {cfg : Cfg} {n : Nat} {f : FuncId} {fn : Func} {args : List V} {h h' : Heap} {x : V}
    (hf : P.funcs[f]? = some fn) (hx : fnEv P md call draw n cfg fn args h = some (x, h')) :
    HS cfg h h' ∧ (∃ fn, P.funcs[f]? = some fn ∧ fn.body.isNone = false) ∧ ∀ m w vs, Rel m h w → PW m h w args vs → Calls P f vs w fun e w' => ∃ v, e = .returned v ∧ Out m h w x h' v w' := by
  unfold fnEv at hx
  split at hx
  · cases hx
  · rename_i c hb
    split at hx
    · cases hx
    · rename_i e fr h2 hne hc
      split at hx
      · rename_i xs hxs
        simp only [Option.some.injEq, Prod.mk.injEq] at hx
        obtain ⟨rfl, rfl⟩ := hx
        obtain ⟨hs, hw⟩ := code_ok hN hcall hdraw _ _ _ _ hc
        refine ⟨hs, ⟨fn, hf, by simp [hb]⟩, fun m w vs r hp => calls_of_wp hf hb (hw m w _ r ?_ _ ?_)⟩
        · refine ⟨by simp [hp.1], fun i y v hy hv => ?_, rfl⟩
          by_cases hi : i < args.length
          · rw [List.getElem?_append_left hi] at hy
            rw [Array.getElem?_append_left (by rw [hp.1]; exact hi)] at hv
            exact hp.2 i y v hy hv
          · rw [List.getElem?_append_right (by omega)] at hy
            rw [Array.getElem?_append_right (by rw [hp.1]; omega)] at hv
            simp only [List.getElem?_replicate, Array.getElem?_replicate] at hy hv
            split at hy
            · split at hv
              · cases hy; cases hv; exact .no
              · cases hv
            · cases hy
        · rintro a' w' ⟨m', e', r', f'⟩
          have hres : a'.defers = [] ∧ ∃ v, (results fn a'.tmps).run P w' = .ok v w' ∧ ∃ u, Ending.returned v = .returned u ∧ Out m h w (oneOf xs) h2 u w' := by
            refine ⟨f'.defers, ?_⟩
            obtain ⟨us, h1, h2', h3⟩ := resV_ok (P := P) r' f' _ _ hxs
            have hrun : (results fn a'.tmps).run P w' = .ok (if h : us.toArray.size = 1 then us.toArray[0] else .tuple us.toArray) w' := by
              unfold results
              have : fn.results = fn.results.toList.toArray := by simp
              rw [this, List.mapM_toArray, Sem.run_bind, Sem.run_map]
              have hfun : ∀ l : List ResultVar, (l.mapM fun
                  | .tmp t => pure (a'.tmps.getD t undef)
                  | .cell a t => do loadVar t (← asAddr (a'.tmps.getD a undef)) : Sem (List Value)) = l.mapM (resOne a'.tmps) := fun l => by
                congr 1
              erw [hfun, h1]
              rfl
            refine ⟨_, hrun, _, rfl, m', e', r', ?_⟩
            clear hrun h1 hxs hw hs
            match xs, us, h2', h3 with
            | [x1], [u1], _, h3 => exact h3 0 x1 u1 rfl rfl
            | [], [], _, _ => exact .tup rfl (by simp)
            | x1 :: x2 :: xs, u1 :: u2 :: us, hl, h3 =>
              have hne : ¬ (u1 :: u2 :: us).toArray.size = 1 := by simp
              rw [dif_neg hne]
              exact .tup (by simpa using hl) (fun i c v hc hv => h3 i c v hc (by simpa using hv))
          cases e with
          | normal => exact hres
          | exit id => exact absurd rfl (hne id)
          | ret => exact hres
      · cases hx
    · cases hx
end
end Go.Ab
