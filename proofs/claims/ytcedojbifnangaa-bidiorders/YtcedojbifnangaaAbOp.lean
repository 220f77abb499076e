/- One operation, whichever it is (but a call of a Go function). -/
import Derived.Test.YtcedojbifnangaaAbMap
namespace Go.Ab

inductive Bel (t : Nat) : V → Prop where
  | rf {v : V} (h : v.rf = true) : Bel t v
  | ptr {b off : Nat} (h : b < t) : Bel t (.ptr b off)
  | sl {b off len cap k : Nat} (h : b < t) : Bel t (.sl b off len cap k)
  | mref {b : Nat} (h : b < t) : Bel t (.mref b)
  | func {fn : Fn} {f c : List V} (h : ∀ x ∈ f, Bel t x) (h' : ∀ x ∈ c, Bel t x) : Bel t (.func fn f c)
  | agg {cs : List V} (h : ∀ x ∈ cs, Bel t x) : Bel t (.agg cs)
  | tup {cs : List V} (h : ∀ x ∈ cs, Bel t x) : Bel t (.tup cs)
  | iface {ty : TypeId} {v : V} (h : Bel t v) : Bel t (.iface ty v)

/-- The blocks below t that D names lead nowhere beyond t. -/
def Inv (D : Nat → Prop) (h : Heap) (t : Nat) : Prop := ∀ b cs, b < t → D b → h[b]? = some (some cs) → ∀ c ∈ cs, Bel t c

/-- What the evaluator does to its own heap. -/
structure HS (cfg : Cfg) (h h' : Heap) : Prop where
  len : h.length ≤ h'.length
  prot : ∀ b, b < h.length → cfg.wr b = false → h'[b]? = h[b]?
  inv : ∀ (D : Nat → Prop) (t : Nat), t ≤ cfg.thr → t ≤ h.length → Inv D h t → Inv D h' t

theorem HS.refl (cfg : Cfg) (h : Heap) : HS cfg h h := ⟨Nat.le_refl _, fun _ _ _ => rfl, fun _ _ _ _ hi => hi⟩

theorem HS.trans {cfg : Cfg} {h h' h'' : Heap} (a : HS cfg h h') (b : HS cfg h' h'') : HS cfg h h'' :=
  ⟨Nat.le_trans a.len b.len, fun x hx hw => (b.prot x (Nat.lt_of_lt_of_le hx a.len) hw).trans (a.prot x hx hw), fun D t h1 h2 hi => b.inv D t h1 (Nat.le_trans h2 a.len) (a.inv D t h1 h2 hi)⟩

theorem HS.push (cfg : Cfg) (h : Heap) (o : Option (List V)) : HS cfg h (h ++ [o]) :=
  ⟨by simp, fun b hb _ => List.getElem?_append_left hb, fun D t _ h2 hi b cs hb hD hc c hcc => by
    rw [List.getElem?_append_left (by omega)] at hc
    exact hi b cs hb hD hc c hcc⟩

theorem putAt_mem {cs : List V} {off : Nat} {vs : List V} {c : V} (hc : c ∈ putAt cs off vs) : c ∈ cs ∨ c ∈ vs := by
  induction vs generalizing cs off with
  | nil => exact .inl hc
  | cons v r ih =>
    rcases ih hc with h | h
    · rcases List.mem_or_eq_of_mem_set h with h | h
      · exact .inl h
      · exact .inr (by simp [h])
    · exact .inr (List.mem_cons_of_mem _ h)

theorem HS.storeCells {cfg : Cfg} {h h' : Heap} {b off : Nat} {vs : List V} (hs : storeCellsV cfg h b off vs = some h') : HS cfg h h' := by
  unfold storeCellsV at hs
  split at hs
  · rename_i cs hb
    split at hs
    · rename_i hc
      simp only [Bool.and_eq_true, decide_eq_true_eq, Bool.or_eq_true] at hc
      obtain ⟨⟨_, hw⟩, hthr⟩ := hc
      cases hs
      refine ⟨by simp, fun x _ hx => ?_, fun D t h1 h2 hi x cs' hx hD hc c hcc => ?_⟩
      · have hne : b ≠ x := fun e => by subst e; rw [hw] at hx; cases hx
        rw [List.getElem?_set_ne hne]
      · by_cases hbx : b = x
        · subst hbx
          rw [List.getElem?_set_self (live_lt ⟨cs, live_of_blockOf hb⟩)] at hc
          cases hc
          rcases putAt_mem hcc with h | h
          · exact hi b cs hx hD (live_of_blockOf hb) c h
          · rcases hthr with h3 | h3
            · omega
            · exact .rf (List.all_eq_true.1 h3 c h)
        · rw [List.getElem?_set_ne hbx] at hc
          exact hi x cs' hx hD hc c hcc
    · cases hs
  · cases hs

theorem HS.kill {cfg : Cfg} {h : Heap} {b : Nat} (hw : cfg.wr b = true) (o : Option (List V)) : HS cfg h ((h.set b none) ++ [o]) := by
  refine ⟨by simp, fun x hx hxw => ?_, fun D t _ h2 hi x cs hx hD hc c hcc => ?_⟩
  · have hne : b ≠ x := fun e => by subst e; rw [hw] at hxw; cases hxw
    rw [List.getElem?_append_left (by simpa using hx), List.getElem?_set_ne hne]
  · rw [List.getElem?_append_left (by simp; omega)] at hc
    by_cases hbx : b = x
    · subst hbx; rw [List.getElem?_set_self (by omega)] at hc; cases hc
    · rw [List.getElem?_set_ne hbx] at hc
      exact hi x cs hx hD hc c hcc

theorem HS.store {P : Program} {cfg : Cfg} {h h' : Heap} {t : TypeId} {a v : V} (hs : storeV P cfg h t a v = some h') : HS cfg h h' := by
  unfold storeV at hs
  split at hs
  · split at hs
    · exact HS.storeCells hs
    · cases hs
  · cases hs

theorem HS.append {P : Program} {cfg : Cfg} {h h' : Heap} {t u : TypeId} {d x y : V} (hy : appendV P cfg h t u d x = some (y, h')) : HS cfg h h' := by
  unfold appendV at hy
  split at hy
  · split at hy
    · split at hy
      · split at hy
        · split at hy
          · split at hy
            · split at hy
              · cases hy; exact .refl _ _
              · cases hy; exact .push _ _ _
            · cases hy
          · split at hy
            · split at hy
              · split at hy
                · rename_i h2 hst
                  simp only [Option.some.injEq, Prod.mk.injEq] at hy
                  obtain ⟨_, rfl⟩ := hy
                  exact HS.storeCells hst
                · cases hy
              · split at hy
                · split at hy
                  · rename_i hc
                    simp only [Bool.and_eq_true, decide_eq_true_eq] at hc
                    simp only [Option.some.injEq, Prod.mk.injEq] at hy
                    obtain ⟨_, rfl⟩ := hy
                    exact HS.kill hc.1.2 _
                  · cases hy
                · cases hy
            · cases hy
          · cases hy
        · cases hy
      · cases hy
    · cases hy
  · cases hy

theorem HS.clear {P : Program} {cfg : Cfg} {h h' : Heap} {t : TypeId} {x : V} (hy : clearV P cfg h t x = some h') : HS cfg h h' := by
  unfold clearV at hy
  split at hy
  · cases hy; exact .refl _ _
  · cases hy; exact .refl _ _
  · split at hy
    · cases hy; exact .refl _ _
    · split at hy
      · split at hy
        · exact HS.storeCells hy
        · cases hy
      · cases hy
  · cases hy

theorem HS.makeSlice {P : Program} {cfg : Cfg} {h h' : Heap} {t : TypeId} {l c y : V} (hy : makeSliceV P h t l c = some (y, h')) : HS cfg h h' := by
  unfold makeSliceV at hy
  split at hy
  · split at hy
    · split at hy
      · cases hy; exact .push _ _ _
      · cases hy
    · cases hy
  · cases hy

theorem HS.buildSlice {P : Program} {cfg : Cfg} {h h' : Heap} {t : TypeId} {n : Nat} {vs : List V} {y : V} (hy : buildSliceV P h t n vs = some (y, h')) : HS cfg h h' := by
  unfold buildSliceV at hy
  split at hy
  · split at hy
    · split at hy
      · split at hy
        · cases hy; exact .push _ _ _
        · cases hy
      · cases hy
    · cases hy
  · cases hy

theorem HS.makeMap {P : Program} {cfg : Cfg} {h h' : Heap} {t : TypeId} {y : V} (hy : makeMapV P h t = some (y, h')) : HS cfg h h' := by
  unfold makeMapV at hy
  split at hy
  · cases hy; exact .push _ _ _
  · cases hy

theorem HS.setMap {cfg : Cfg} {h : Heap} {b : Nat} {k e : IntKind} {l l' : List (Int × Int)} (hb : h[b]? = some (some [.mp k e l])) (hw : cfg.wr b = true) : HS cfg h (h.set b (some [.mp k e l'])) := by
  refine ⟨by simp, fun c hc hwc => ?_, fun D t h1 h2 hi c cs hc hD hcs x hx => ?_⟩
  · rw [List.getElem?_set_ne]
    rintro rfl
    rw [hw] at hwc
    cases hwc
  · by_cases hbc : b = c
    · subst hbc
      rw [List.getElem?_set_self (List.getElem?_eq_some_iff.1 hb).1] at hcs
      cases hcs
      rw [List.mem_singleton.1 hx]
      exact .rf rfl
    · rw [List.getElem?_set_ne hbc] at hcs
      exact hi c cs hc hD hcs x hx

theorem HS.mapUpdate {P : Program} {cfg : Cfg} {h h' : Heap} {t : TypeId} {a b c : V} (hy : mapUpdateV P cfg h t a b c = some h') : HS cfg h h' := by
  unfold mapUpdateV at hy
  split at hy
  · split at hy
    · rename_i hmo
      split at hy
      · rename_i hc
        simp only [Bool.and_eq_true, decide_eq_true_eq] at hc
        obtain ⟨⟨⟨⟨rfl, rfl⟩, rfl⟩, rfl⟩, hw⟩ := hc
        cases hy
        exact .setMap (live_of_mapOf hmo) hw
      · cases hy
    · cases hy
  · cases hy

theorem HS.conv {P : Program} {cfg : Cfg} {h h' : Heap} {s d : TypeId} {x y : V} (hy : convV P h s d x = some (y, h')) : HS cfg h h' := by
  unfold convV at hy
  split at hy
  · split at hy
    · split at hy
      · split at hy
        · cases hy; exact .refl _ _
        · cases hy
      · cases hy
    · split at hy
      · split at hy
        · cases hy; exact .refl _ _
        · cases hy
      · cases hy
    · cases hy
  · split at hy
    · cases hy; exact .refl _ _
    · cases hy
  · split at hy
    · cases hy; exact .refl _ _
    · cases hy
  · split at hy
    · split at hy
      · cases hy; exact .push _ _ _
      · cases hy
    · cases hy
  · cases hy

section
variable {P : Program} {m : Mu} {h : Heap} {w : World}

/-- An operation is carried out as the evaluator says. -/
def ExecOK (P : Program) (o : Oper) (a : Act) (m : Mu) (h : Heap) (w : World) (x : V) (h' : Heap) : Prop :=
  ∃ nx v w', (execOp a.eval o).run P w = .ok nx w' ∧ (nx = .value v ∨ (nx = .skip ∧ v = undef)) ∧ Out m h w x h' v w'

theorem ExecOK.value {o : Oper} {a : Act} {x : V} {h' : Heap} {v : Value} {w' : World} {s : Sem Value} (he : execOp a.eval o = (do pure (.value (← s)))) (hs : s.run P w = .ok v w') (hout : Out m h w x h' v w') : ExecOK P o a m h w x h' :=
  ⟨.value v, v, w', by rw [he]; simp [hs], .inl rfl, hout⟩

theorem ExecOK.value' {o : Oper} {a : Act} {x : V} {h' : Heap} {s : Sem Value} (he : execOp a.eval o = (do pure (.value (← s)))) (hs : ∃ v w', s.run P w = .ok v w' ∧ Out m h w x h' v w') : ExecOK P o a m h w x h' :=
  let ⟨_, _, h1, h2⟩ := hs
  .value he h1 h2

theorem ExecOK.same {o : Oper} {a : Act} {x : V} {s : Sem Value} (r : Rel m h w) (he : execOp a.eval o = (do pure (.value (← s)))) (hs : ∃ v, s.run P w = .ok v w ∧ R m h w x v) : ExecOK P o a m h w x h :=
  let ⟨_, h1, h2⟩ := hs
  .value he h1 (.same r h2)

theorem map_pair {α : Type} {e : Option V} {h h' : α} {x : V} (hx : e.map (·, h) = some (x, h')) : e = some x ∧ h' = h := by
  simp only [Option.map_eq_some_iff, Prod.mk.injEq] at hx
  obtain ⟨y, h1, rfl, rfl⟩ := hx
  exact ⟨h1, rfl⟩

set_option maxHeartbeats 2000000 in
theorem opV_ok (r : Rel m h w) {fr : List V} {a : Act} (f : FR m h w fr a) {cfg : Cfg} {o : Oper} {op : Op} {x : V} {h' : Heap} (hop : o.op = op) (hx : opV P cfg fr h op = some (x, h')) :
    ExecOK P o a m h w x h' ∧ HS cfg h h' := by
  unfold opV at hx
  split at hx
  case _ y => -- move
    obtain ⟨h1, rfl⟩ := map_pair hx
    exact ⟨⟨.value (a.eval y), _, w, by simp only [execOp, hop, Sem.run_pure], .inl rfl, .same r (ev_R f h1)⟩, .refl _ _⟩
  case _ y => -- assign
    obtain ⟨h1, rfl⟩ := map_pair hx
    exact ⟨⟨.value (a.eval y), _, w, by simp only [execOp, hop, Sem.run_pure], .inl rfl, .same r (ev_R f h1)⟩, .refl _ _⟩
  case _ c y z => -- pick
    split at hx
    · rename_i hc
      have hcr := ev_R f hc
      generalize hce : a.eval c = ce at hcr
      cases hcr
      obtain ⟨h1, rfl⟩ := map_pair hx
      exact ⟨⟨.value (a.eval y), _, w, by simp only [execOp, hop, hce, asBool, Sem.run_bind, Sem.run_pure, Result.andThen_ok, if_true, Bool.false_eq_true, if_false], .inl rfl, .same r (ev_R f h1)⟩, .refl _ _⟩
    · rename_i hc
      have hcr := ev_R f hc
      generalize hce : a.eval c = ce at hcr
      cases hcr
      obtain ⟨h1, rfl⟩ := map_pair hx
      exact ⟨⟨.value (a.eval z), _, w, by simp only [execOp, hop, hce, asBool, Sem.run_bind, Sem.run_pure, Result.andThen_ok, if_true, Bool.false_eq_true, if_false], .inl rfl, .same r (ev_R f h1)⟩, .refl _ _⟩
    · cases hx
  case _ t => -- alloc
    split at hx
    · rename_i z hz
      cases hx
      exact ⟨.value' (s := Instr.alloc t true (.tuple #[])) (by simp only [execOp, hop]) (alloc_ok r hz), .push _ _ _⟩
    · cases hx
  case _ t y => -- box
    split at hx
    · rename_i v hv
      split at hx
      · rename_i cs hcs
        cases hx
        exact ⟨.value' (s := Instr.box t (a.eval y)) (by simp only [execOp, hop]) (box_ok r (ev_R f hv) hcs), .push _ _ _⟩
      · cases hx
    · cases hx
  case _ t ps => -- build
    split at hx
    · rename_i vs hvs
      obtain ⟨h1, rfl⟩ := map_pair hx
      obtain ⟨hl, hr⟩ := evParts_R f hvs
      obtain ⟨v, hv, hrv⟩ := build_ok (P := P) hl hr h1
      refine ⟨.value (s := Instr.build t (ps.map fun (i, x) => (i, a.eval x))) (by simp only [execOp, hop]) ?_ (.same r hrv), .refl _ _⟩
      rw [← hv]
      congr 2
      apply Array.ext'
      simp
    · cases hx
  case _ t n ps => -- buildSlice
    split at hx
    · rename_i vs hvs
      exact ⟨.value' (s := Instr.buildSlice t n (ps.map fun (i, x) => (i, a.eval x))) (by simp only [execOp, hop]) (buildSlice_ok r f hvs hx), .buildSlice hx⟩
    · cases hx
  case _ t p => -- load
    split at hx
    · rename_i v hv
      obtain ⟨h1, rfl⟩ := map_pair hx
      exact ⟨.same r (s := Instr.loadAt t (a.eval p)) (by simp only [execOp, hop]) (load_ok r (ev_R f hv) h1), .refl _ _⟩
    · cases hx
  case _ t p y => -- store
    split at hx
    · rename_i pv v hp hv
      split at hx
      · rename_i h2 hst
        simp only [Option.some.injEq, Prod.mk.injEq] at hx
        obtain ⟨rfl, rfl⟩ := hx
        obtain ⟨w', hrun, e, r'⟩ := store_ok (P := P) r (ev_R f hp) (ev_R f hv) hst
        exact ⟨⟨.skip, undef, w', by simp only [execOp, hop, Sem.run_bind, hrun, Result.andThen_ok, Sem.run_pure], .inr ⟨rfl, rfl⟩, m, e, r', .no⟩, .store hst⟩
      · cases hx
    · cases hx
  case _ y => -- nilCheck
    split at hx
    · rename_i v hv
      obtain ⟨h1, rfl⟩ := map_pair hx
      have hr := ev_R f hv
      obtain ⟨rfl, h2⟩ := nilCheck_ok hr h1
      refine ⟨⟨.value (a.eval y), _, w, ?_, .inl rfl, .same r hr⟩, .refl _ _⟩
      rcases h2 with ⟨ad, h2⟩ | ⟨g, b, c, h2⟩
      · simp only [execOp, hop, h2, Sem.run_pure]
      · simp only [execOp, hop, h2, Sem.run_pure]
    · cases hx
  case _ op t y z _ => -- binOp
    split at hx
    · rename_i b c hb hc
      obtain ⟨h1, rfl⟩ := map_pair hx
      exact ⟨.same r (s := do eqGuard op t y z (a.eval y) (a.eval z); binOp op t (a.eval y) (a.eval z)) (by simp only [execOp, hop]) (bin_ok (ev_R f hb) (ev_R f hc) h1), .refl _ _⟩
    · cases hx
  case _ op t y => -- unOp
    split at hx
    · rename_i b hb
      obtain ⟨h1, rfl⟩ := map_pair hx
      exact ⟨.same r (s := Op.unary op (a.eval y)) (by simp only [execOp, hop]) (un_ok (ev_R f hb) h1), .refl _ _⟩
    · cases hx
  case _ s d y => -- convert
    split at hx
    · rename_i b hb
      exact ⟨.value' (s := convert s d (a.eval y)) (by simp only [execOp, hop]) (conv_ok r (ev_R f hb) hx), .conv hx⟩
    · cases hx
  case _ fn f' c => -- makeFunc
    split at hx
    · rename_i fs cs hfs hcs
      cases hx
      obtain ⟨l1, r1⟩ := evAll_R f hfs
      obtain ⟨l2, r2⟩ := evAll_R f hcs
      refine ⟨.same r (s := Instr.makeFunc fn (f'.map a.eval) (c.map a.eval)) (by simp only [execOp, hop]) ⟨.func fn (f'.map a.eval) (c.map a.eval), by simp [Instr.makeFunc], .func (by simpa using l1) (fun i x v hx hv => r1 i x v hx ?_) (by simpa using l2) (fun i x v hx hv => r2 i x v hx ?_)⟩, .refl _ _⟩
      · simpa using hv
      · simpa using hv
    · cases hx
  case _ t l c => -- makeSlice
    split at hx
    · rename_i b d hb hd
      exact ⟨.value' (s := Instr.makeSlice t (a.eval l) (a.eval c)) (by simp only [execOp, hop]) (makeSlice_ok r (ev_R f hb) (ev_R f hd) hx), .makeSlice hx⟩
    · cases hx
  case _ t y lo hi => -- slice
    split at hx
    · rename_i b hb
      obtain ⟨h1, rfl⟩ := map_pair hx
      refine ⟨.same r (s := Instr.sliceAt t (a.eval y) (lo.map a.eval) (hi.map a.eval) none) (by simp only [execOp, hop, Option.map_none]) (slice_ok r (ev_R f hb) ?_ ?_ ?_ ?_ h1), .refl _ _⟩
      · intro x v hx hv
        cases lo with
        | none => simp at hx
        | some o => simp at hx hv; subst hv; exact ev_R f hx
      · intro x v hx hv
        cases hi with
        | none => simp at hx
        | some o => simp at hx hv; subst hv; exact ev_R f hx
      · simp
      · simp
    · cases hx
  case _ s y g => -- fieldAddr
    split at hx
    · rename_i b hb
      obtain ⟨h1, rfl⟩ := map_pair hx
      exact ⟨.same r (s := Instr.fieldAt s (a.eval y) g) (by simp only [execOp, hop]) (fieldAddr_ok (ev_R f hb) h1), .refl _ _⟩
    · cases hx
  case _ s y g => -- field
    split at hx
    · rename_i b hb
      obtain ⟨h1, rfl⟩ := map_pair hx
      exact ⟨.same r (s := Instr.field s (a.eval y) g) (by simp only [execOp, hop]) (field_ok (ev_R f hb) h1), .refl _ _⟩
    · cases hx
  case _ s y g => -- indexAddr
    split at hx
    · rename_i b c hb hc
      obtain ⟨h1, rfl⟩ := map_pair hx
      exact ⟨.same r (s := Instr.indexAt s (a.eval y) (a.eval g)) (by simp only [execOp, hop]) (indexAddr_ok (ev_R f hb) (ev_R f hc) h1), .refl _ _⟩
    · cases hx
  case _ s y g => -- index
    split at hx
    · rename_i b c hb hc
      obtain ⟨h1, rfl⟩ := map_pair hx
      exact ⟨.same r (s := Instr.index s (a.eval y) (a.eval g)) (by simp only [execOp, hop]) (index_ok (ev_R f hb) (ev_R f hc) h1), .refl _ _⟩
    · cases hx
  case _ y i => -- extract
    split at hx
    · rename_i b hb
      obtain ⟨h1, rfl⟩ := map_pair hx
      exact ⟨.same r (s := Instr.extract (a.eval y) i) (by simp only [execOp, hop]) (extract_ok (ev_R f hb) h1), .refl _ _⟩
    · cases hx
  case _ t => -- makeMap
    exact ⟨.value' (s := Instr.makeMap t none) (by simp only [execOp, hop, Option.map_none]) (makeMap_ok r hx), .makeMap hx⟩
  case _ t p q y => -- mapUpdate
    split at hx
    · rename_i pv qv yv hp hq hv
      split at hx
      · rename_i h2 hst
        simp only [Option.some.injEq, Prod.mk.injEq] at hx
        obtain ⟨rfl, rfl⟩ := hx
        obtain ⟨w', hrun, e, r'⟩ := mapUpdate_ok (P := P) r (ev_R f hp) (ev_R f hq) (ev_R f hv) hst
        exact ⟨⟨.skip, undef, w', by simp only [execOp, hop, Sem.run_bind, hrun, Result.andThen_ok, Sem.run_pure], .inr ⟨rfl, rfl⟩, m, e, r', .no⟩, .mapUpdate hst⟩
      · cases hx
    · cases hx
  case _ t p q ok => -- lookup
    split at hx
    · rename_i pv qv hp hq
      obtain ⟨h1, rfl⟩ := map_pair hx
      exact ⟨.same r (s := Instr.lookup t (a.eval p) (a.eval q) ok) (by simp only [execOp, hop]) (lookup_ok r (ev_R f hp) (ev_R f hq) h1), .refl _ _⟩
    · cases hx
  case _ b args tys => -- builtins
    split at hx
    · cases hx
    · rename_i vs hvs
      obtain ⟨hl, hr⟩ := evAll_R f hvs
      have hres : ∀ (d : Sem Next), (execOp a.eval o) = (do let d ← resolve a.eval { callee := .builtin b, args := args, argTypes := tys } o.type; invoke d.target d.args) := fun _ => by simp only [execOp, hop]
      have hex : (execOp a.eval o) = builtin b tys o.type (args.map fun | .const _ => true | _ => false) (args.map a.eval) := by
        rw [hres (pure .skip)]; rfl
      split at hx
      · rename_i t y htys
        obtain ⟨h1, rfl⟩ := map_pair hx
        have ht : tys = #[t] := by apply Array.ext'; simpa using htys
        have hargs : ∃ v, args.map a.eval = #[v] ∧ R m h' w y v := by
          have h2 : (args.toList.map a.eval).length = 1 := by simpa using hl
          match hm : args.toList.map a.eval, h2 with
          | [v], _ => exact ⟨v, by apply Array.ext'; simpa using hm, hr 0 y v rfl (by rw [hm]; rfl)⟩
        obtain ⟨v, hv, hvr⟩ := hargs
        exact ⟨.same r (s := Builtin.len_ #[t] o.type #[v]) (by rw [hex, ht, hv]; rfl) (len_ok hvr h1), .refl _ _⟩
      · rename_i t u d y htys
        have ht : tys = #[t, u] := by apply Array.ext'; simpa using htys
        have hargs : ∃ v v', args.map a.eval = #[v, v'] ∧ R m h w d v ∧ R m h w y v' := by
          have h2 : (args.toList.map a.eval).length = 2 := by simpa using hl
          match hm : args.toList.map a.eval, h2 with
          | [v, v'], _ => exact ⟨v, v', by apply Array.ext'; simpa using hm, hr 0 d v rfl (by rw [hm]; rfl), hr 1 y v' rfl (by rw [hm]; rfl)⟩
        obtain ⟨v, v', hv, hvr, hvr'⟩ := hargs
        obtain ⟨rfl, hok⟩ := append_ok (P := P) (ty := o.type) r hvr hvr' hx
        exact ⟨.value' (s := Builtin.append_ #[t, t] o.type #[v, v']) (by rw [hex, ht, hv]; rfl) hok, .append hx⟩
      · obtain ⟨h1, rfl⟩ := map_pair hx
        obtain ⟨v, hv, hvr⟩ := min_ok (P := P) (ts := tys) (ty := o.type) (by simpa using hl) hr h1
        refine ⟨.same r (s := Builtin.min_ tys o.type (args.map a.eval)) (by rw [hex]; rfl) ⟨v, ?_, hvr⟩, .refl _ _⟩
        rw [← hv]; congr 2; apply Array.ext'; simp
      · obtain ⟨h1, rfl⟩ := map_pair hx
        obtain ⟨v, hv, hvr⟩ := max_ok (P := P) (ts := tys) (ty := o.type) (by simpa using hl) hr h1
        refine ⟨.same r (s := Builtin.max_ tys o.type (args.map a.eval)) (by rw [hex]; rfl) ⟨v, ?_, hvr⟩, .refl _ _⟩
        rw [← hv]; congr 2; apply Array.ext'; simp
      · rename_i t y htys
        have ht : tys = #[t] := by apply Array.ext'; simpa using htys
        have hargs : ∃ v, args.map a.eval = #[v] ∧ R m h w y v := by
          have h2 : (args.toList.map a.eval).length = 1 := by simpa using hl
          match hm : args.toList.map a.eval, h2 with
          | [v], _ => exact ⟨v, by apply Array.ext'; simpa using hm, hr 0 y v rfl (by rw [hm]; rfl)⟩
        obtain ⟨v, hv, hvr⟩ := hargs
        split at hx
        · rename_i h2 hcl
          simp only [Option.some.injEq, Prod.mk.injEq] at hx
          obtain ⟨rfl, rfl⟩ := hx
          exact ⟨.value' (s := Builtin.clear_ #[t] o.type #[v]) (by rw [hex, ht, hv]; rfl) (clear_ok r hvr hcl), .clear hcl⟩
        · cases hx
      · cases hx
  case _ => cases hx
end
end Go.Ab
