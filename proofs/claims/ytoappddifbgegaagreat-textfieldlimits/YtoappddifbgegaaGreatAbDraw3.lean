/- Several texts of this proof in one. -/
import Derived.Test.YtoappddifbgegaaGreatAbMap
import Derived.Scope
import Derived.RangeFuncLeaves
import Derived.RangeFuncRecord
set_option linter.all false
namespace Go.Ab
variable [Base]
inductive Bel (t : Nat) : V → Prop where
  | rf {v : V} (h : v.rf = true) : Bel t v
  | ptr {b off : Nat} (h : b < t) : Bel t (.ptr b off)
  | sl {b off len cap k : Nat} (h : b < t) : Bel t (.sl b off len cap k)
  | mref {b : Nat} (h : b < t) : Bel t (.mref b)
  | func {fn : Fn} {f c : List V} (h : ∀ x ∈ f, Bel t x) (h' : ∀ x ∈ c, Bel t x) : Bel t (.func fn f c)
  | agg {cs : List V} (h : ∀ x ∈ cs, Bel t x) : Bel t (.agg cs)
  | tup {cs : List V} (h : ∀ x ∈ cs, Bel t x) : Bel t (.tup cs)
  | iface {ty : TypeId} {v : V} (h : Bel t v) : Bel t (.iface ty v)
def Inv (D : Nat → Prop) (h : Heap) (t : Nat) : Prop := ∀ b cs, b < t → D b → h[b]? = some (some cs) → ∀ c ∈ cs, Bel t c
structure HS (cfg : Cfg) (h h' : Heap) : Prop where
  len : h.length ≤ h'.length
  prot : ∀ b, b < h.length → cfg.wr b = false → h'[b]? = h[b]?
  inv : ∀ (D : Nat → Prop) (t : Nat), t ≤ cfg.thr → t ≤ h.length → Inv D h t → Inv D h' t
theorem HS.refl (cfg : Cfg) (h : Heap) : HS cfg h h := ⟨Nat.le_refl _, fun _ _ _ => rfl, fun _ _ _ _ hi => hi⟩
theorem HS.trans {cfg : Cfg} {h h' h'' : Heap} (a : HS cfg h h') (b : HS cfg h' h'') : HS cfg h h'' :=
  ⟨Nat.le_trans a.len b.len, fun x hx hw => (b.prot x (Nat.lt_of_lt_of_le hx a.len) hw).trans (a.prot x hx hw), fun D t h1 h2 hi => b.inv D t h1 (Nat.le_trans h2 a.len) (a.inv D t h1 h2 hi)⟩
theorem HS.push (cfg : Cfg) (h : Heap) (o : Option (List V)) : HS cfg h (h ++ [o]) :=
  ⟨by simp, fun b hb _ => List.getElem?_append_left hb, fun D t _ h2 hi b cs hb hD hc c hcc => by
    rw [List.getElem?_append_left (by omega)] at hc
    exact hi b cs hb hD hc c hcc⟩
theorem putAt_mem {cs : List V} {off : Nat} {vs : List V} {c : V} (hc : c ∈ putAt cs off vs) : c ∈ cs ∨ c ∈ vs := by
  induction vs generalizing cs off with
  | nil => exact .inl hc
  | cons v r ih =>
    rcases ih hc with h | h
    · rcases List.mem_or_eq_of_mem_set h with h | h
      · exact .inl h
      · exact .inr (by simp [h])
    · exact .inr (List.mem_cons_of_mem _ h)
theorem HS.storeCells {cfg : Cfg} {h h' : Heap} {b off : Nat} {vs : List V} (hs : storeCellsV cfg h b off vs = some h') : HS cfg h h' := by
  unfold storeCellsV at hs
  split at hs
  · rename_i cs hb
    split at hs
    · rename_i hc
      simp only [Bool.and_eq_true, decide_eq_true_eq, Bool.or_eq_true] at hc
      obtain ⟨⟨_, hw⟩, hthr⟩ := hc
      cases hs
      refine ⟨by simp, fun x _ hx => ?_, fun D t h1 h2 hi x cs' hx hD hc c hcc => ?_⟩
      · have hne : b ≠ x := fun e => by subst e; rw [hw] at hx; cases hx
        rw [List.getElem?_set_ne hne]
      · by_cases hbx : b = x
        · subst hbx
          rw [List.getElem?_set_self (live_lt ⟨cs, live_of_blockOf hb⟩)] at hc
          cases hc
          rcases putAt_mem hcc with h | h
          · exact hi b cs hx hD (live_of_blockOf hb) c h
          · rcases hthr with h3 | h3
            · omega
            · exact .rf (List.all_eq_true.1 h3 c h)
        · rw [List.getElem?_set_ne hbx] at hc
          exact hi x cs' hx hD hc c hcc
    · cases hs
  · cases hs
theorem HS.kill {cfg : Cfg} {h : Heap} {b : Nat} (hw : cfg.wr b = true) (o : Option (List V)) : HS cfg h ((h.set b none) ++ [o]) := by
  refine ⟨by simp, fun x hx hxw => ?_, fun D t _ h2 hi x cs hx hD hc c hcc => ?_⟩
  · have hne : b ≠ x := fun e => by subst e; rw [hw] at hxw; cases hxw
    rw [List.getElem?_append_left (by simpa using hx), List.getElem?_set_ne hne]
  · rw [List.getElem?_append_left (by simp; omega)] at hc
    by_cases hbx : b = x
    · subst hbx; rw [List.getElem?_set_self (by omega)] at hc; cases hc
    · rw [List.getElem?_set_ne hbx] at hc
      exact hi x cs hx hD hc c hcc
theorem HS.store {P : Program} {cfg : Cfg} {h h' : Heap} {t : TypeId} {a v : V} (hs : storeV P cfg h t a v = some h') : HS cfg h h' := by
  unfold storeV at hs
  split at hs
  · split at hs
    · exact HS.storeCells hs
    · cases hs
  · cases hs
theorem HS.append {P : Program} {cfg : Cfg} {h h' : Heap} {t u : TypeId} {d x y : V} (hy : appendV P cfg h t u d x = some (y, h')) : HS cfg h h' := by
  unfold appendV at hy
  split at hy
  · split at hy
    · split at hy
      · split at hy
        · split at hy
          · split at hy
            · split at hy
              · cases hy; exact .refl _ _
              · cases hy; exact .push _ _ _
            · cases hy
          · split at hy
            · split at hy
              · split at hy
                · rename_i h2 hst
                  simp only [Option.some.injEq, Prod.mk.injEq] at hy
                  obtain ⟨_, rfl⟩ := hy
                  exact HS.storeCells hst
                · cases hy
              · split at hy
                · split at hy
                  · rename_i hc
                    simp only [Bool.and_eq_true, decide_eq_true_eq] at hc
                    simp only [Option.some.injEq, Prod.mk.injEq] at hy
                    obtain ⟨_, rfl⟩ := hy
                    exact HS.kill hc.1.2 _
                  · cases hy
                · cases hy
            · cases hy
          · cases hy
        · cases hy
      · cases hy
    · cases hy
  · cases hy
theorem HS.clear {P : Program} {cfg : Cfg} {h h' : Heap} {t : TypeId} {x : V} (hy : clearV P cfg h t x = some h') : HS cfg h h' := by
  unfold clearV at hy
  split at hy
  · cases hy; exact .refl _ _
  · cases hy; exact .refl _ _
  · split at hy
    · cases hy; exact .refl _ _
    · split at hy
      · split at hy
        · exact HS.storeCells hy
        · cases hy
      · cases hy
  · cases hy
theorem HS.makeSlice {P : Program} {cfg : Cfg} {h h' : Heap} {t : TypeId} {l c y : V} (hy : makeSliceV P h t l c = some (y, h')) : HS cfg h h' := by
  unfold makeSliceV at hy
  split at hy
  · split at hy
    · split at hy
      · cases hy; exact .push _ _ _
      · cases hy
    · cases hy
  · cases hy
theorem HS.buildSlice {P : Program} {cfg : Cfg} {h h' : Heap} {t : TypeId} {n : Nat} {vs : List V} {y : V} (hy : buildSliceV P h t n vs = some (y, h')) : HS cfg h h' := by
  unfold buildSliceV at hy
  split at hy
  · split at hy
    · split at hy
      · split at hy
        · cases hy; exact .push _ _ _
        · cases hy
      · cases hy
    · cases hy
  · cases hy
theorem HS.makeMap {P : Program} {cfg : Cfg} {h h' : Heap} {t : TypeId} {y : V} (hy : makeMapV P h t = some (y, h')) : HS cfg h h' := by
  unfold makeMapV at hy
  split at hy
  · cases hy; exact .push _ _ _
  · split at hy
    · cases hy; exact .push _ _ _
    · split at hy
      · cases hy; exact .push _ _ _
      · cases hy
theorem HS.setMap {cfg : Cfg} {h : Heap} {b : Nat} {k e : IntKind} {l l' : List (Int × Int)} (hb : h[b]? = some (some [.mp k e l])) (hw : cfg.wr b = true) : HS cfg h (h.set b (some [.mp k e l'])) := by
  refine ⟨by simp, fun c hc hwc => ?_, fun D t h1 h2 hi c cs hc hD hcs x hx => ?_⟩
  · rw [List.getElem?_set_ne]
    rintro rfl
    rw [hw] at hwc
    cases hwc
  · by_cases hbc : b = c
    · subst hbc
      rw [List.getElem?_set_self (List.getElem?_eq_some_iff.1 hb).1] at hcs
      cases hcs
      rw [List.mem_singleton.1 hx]
      exact .rf rfl
    · rw [List.getElem?_set_ne hbc] at hcs
      exact hi c cs hc hD hcs x hx
theorem HS.setMapS {cfg : Cfg} {h : Heap} {b : Nat} {l l' : List (List V)} (hb : h[b]? = some (some [.mq l])) (hw : cfg.wr b = true) : HS cfg h (h.set b (some [.mq l'])) := by
  refine ⟨by simp, fun c hc hwc => ?_, fun D t h1 h2 hi c cs hc hD hcs x hx => ?_⟩
  · rw [List.getElem?_set_ne]
    rintro rfl
    rw [hw] at hwc
    cases hwc
  · by_cases hbc : b = c
    · subst hbc
      rw [List.getElem?_set_self (List.getElem?_eq_some_iff.1 hb).1] at hcs
      cases hcs
      rw [List.mem_singleton.1 hx]
      exact .rf rfl
    · rw [List.getElem?_set_ne hbc] at hcs
      exact hi c cs hc hD hcs x hx
theorem HS.mapUpdateS {P : Program} {cfg : Cfg} {h h' : Heap} {t : TypeId} {a b c : V} (hy : mapUpdateS P cfg h t a b c = some h') : HS cfg h h' := by
  unfold Go.Ab.mapUpdateS at hy
  split at hy
  · split at hy
    · rename_i hmo
      split at hy
      · rename_i hc
        simp only [Bool.and_eq_true, decide_eq_true_eq] at hc
        split at hy
        · cases hy
          exact .setMapS (live_of_mapSOf hmo) hc.2
        · cases hy
      · cases hy
    · cases hy
  · cases hy
theorem HS.mapUpdateI {P : Program} {cfg : Cfg} {h h' : Heap} {t : TypeId} {a c : V} {k : IntKind} {q : Int} (hy : mapUpdateI P cfg h t a k q c = some h') : HS cfg h h' := by
  unfold Go.Ab.mapUpdateI at hy
  split at hy
  · split at hy
    · rename_i hmo
      split at hy
      · rename_i hc
        simp only [Bool.and_eq_true, decide_eq_true_eq] at hc
        split at hy
        · cases hy
          exact .setMapS (live_of_mapSOf hmo) hc.2
        · cases hy
      · cases hy
    · cases hy
  · cases hy
theorem HS.mapUpdate {P : Program} {cfg : Cfg} {h h' : Heap} {t : TypeId} {a b c : V} (hy : mapUpdateV P cfg h t a b c = some h') : HS cfg h h' := by
  unfold mapUpdateV at hy
  split at hy
  · split at hy
    · rename_i hmo
      split at hy
      · rename_i hc
        simp only [Bool.and_eq_true, decide_eq_true_eq] at hc
        obtain ⟨⟨⟨⟨rfl, rfl⟩, rfl⟩, rfl⟩, hw⟩ := hc
        cases hy
        exact .setMap (live_of_mapOf hmo) hw
      · cases hy
    · cases hy
  · exact .mapUpdateI hy
  · exact .mapUpdateS hy
  · cases hy
theorem HS.conv {P : Program} {cfg : Cfg} {h h' : Heap} {s d : TypeId} {x y : V} (hy : convV P h s d x = some (y, h')) : HS cfg h h' := by
  unfold convV at hy
  split at hy
  · split at hy
    · split at hy
      · split at hy
        · cases hy; exact .refl _ _
        · cases hy
      · cases hy
    · split at hy
      · split at hy
        · cases hy; exact .refl _ _
        · cases hy
      · cases hy
    · cases hy
  · split at hy
    · cases hy; exact .refl _ _
    · cases hy
  · split at hy
    · cases hy; exact .refl _ _
    · cases hy
  · split at hy
    · split at hy
      · cases hy; exact .push _ _ _
      · cases hy
    · cases hy
  · cases hy
section
variable {P : Program} {m : Mu} {h : Heap} {w : World}
def ExecOK (P : Program) (o : Oper) (a : Act) (m : Mu) (h : Heap) (w : World) (x : V) (h' : Heap) : Prop :=
  ∃ nx v w', (execOp a.eval o).run P w = .ok nx w' ∧ (nx = .value v ∨ (nx = .skip ∧ v = undef)) ∧ Out m h w x h' v w'
theorem ExecOK.value {o : Oper} {a : Act} {x : V} {h' : Heap} {v : Value} {w' : World} {s : Sem Value} (he : execOp a.eval o = (do pure (.value (← s)))) (hs : s.run P w = .ok v w') (hout : Out m h w x h' v w') : ExecOK P o a m h w x h' :=
  ⟨.value v, v, w', by rw [he]; simp [hs], .inl rfl, hout⟩
theorem ExecOK.value' {o : Oper} {a : Act} {x : V} {h' : Heap} {s : Sem Value} (he : execOp a.eval o = (do pure (.value (← s)))) (hs : ∃ v w', s.run P w = .ok v w' ∧ Out m h w x h' v w') : ExecOK P o a m h w x h' :=
  let ⟨_, _, h1, h2⟩ := hs
  .value he h1 h2
theorem ExecOK.same {o : Oper} {a : Act} {x : V} {s : Sem Value} (r : Rel m h w) (he : execOp a.eval o = (do pure (.value (← s)))) (hs : ∃ v, s.run P w = .ok v w ∧ R m h w x v) : ExecOK P o a m h w x h :=
  let ⟨_, h1, h2⟩ := hs
  .value he h1 (.same r h2)
theorem map_pair {α : Type} {e : Option V} {h h' : α} {x : V} (hx : e.map (·, h) = some (x, h')) : e = some x ∧ h' = h := by
  simp only [Option.map_eq_some_iff, Prod.mk.injEq] at hx
  obtain ⟨y, h1, rfl, rfl⟩ := hx
  exact ⟨h1, rfl⟩
set_option maxHeartbeats 2000000 in
theorem opV_ok (r : Rel m h w) {fr : List V} {a : Act} (f : FR m h w fr a) {cfg : Cfg} {o : Oper} {op : Op} {x : V} {h' : Heap} (hop : o.op = op) (hx : opV P cfg fr h op = some (x, h')) :
    ExecOK P o a m h w x h' ∧ HS cfg h h' := by
  unfold opV at hx
  split at hx
  case _ y => -- move
    obtain ⟨h1, rfl⟩ := map_pair hx
    exact ⟨⟨.value (a.eval y), _, w, by simp only [execOp, hop, Sem.run_pure], .inl rfl, .same r (ev_R f h1)⟩, .refl _ _⟩
  case _ y => -- assign
    obtain ⟨h1, rfl⟩ := map_pair hx
    exact ⟨⟨.value (a.eval y), _, w, by simp only [execOp, hop, Sem.run_pure], .inl rfl, .same r (ev_R f h1)⟩, .refl _ _⟩
  case _ c y z => -- pick
    split at hx
    · rename_i hc
      have hcr := ev_R f hc
      generalize hce : a.eval c = ce at hcr
      cases hcr
      obtain ⟨h1, rfl⟩ := map_pair hx
      exact ⟨⟨.value (a.eval y), _, w, by simp only [execOp, hop, hce, asBool, Sem.run_bind, Sem.run_pure, Result.andThen_ok, if_true], .inl rfl, .same r (ev_R f h1)⟩, .refl _ _⟩
    · rename_i hc
      have hcr := ev_R f hc
      generalize hce : a.eval c = ce at hcr
      cases hcr
      obtain ⟨h1, rfl⟩ := map_pair hx
      exact ⟨⟨.value (a.eval z), _, w, by simp only [execOp, hop, hce, asBool, Sem.run_bind, Sem.run_pure, Result.andThen_ok, Bool.false_eq_true, if_false], .inl rfl, .same r (ev_R f h1)⟩, .refl _ _⟩
    · cases hx
  case _ t => -- alloc
    split at hx
    · rename_i z hz
      cases hx
      exact ⟨.value' (s := Instr.alloc t true (.tuple #[])) (by simp only [execOp, hop]) (alloc_ok r hz), .push _ _ _⟩
    · cases hx
  case _ t y => -- box
    split at hx
    · rename_i v hv
      split at hx
      · rename_i cs hcs
        cases hx
        exact ⟨.value' (s := Instr.box t (a.eval y)) (by simp only [execOp, hop]) (box_ok r (ev_R f hv) hcs), .push _ _ _⟩
      · cases hx
    · cases hx
  case _ t ps => -- build
    split at hx
    · rename_i vs hvs
      obtain ⟨h1, rfl⟩ := map_pair hx
      obtain ⟨hl, hr⟩ := evParts_R f hvs
      obtain ⟨v, hv, hrv⟩ := build_ok (P := P) hl hr h1
      refine ⟨.value (s := Instr.build t (ps.map fun (i, x) => (i, a.eval x))) (by simp only [execOp, hop]) ?_ (.same r hrv), .refl _ _⟩
      rw [← hv]
      congr 2
      apply Array.ext'
      simp
    · cases hx
  case _ t n ps => -- buildSlice
    split at hx
    · rename_i vs hvs
      exact ⟨.value' (s := Instr.buildSlice t n (ps.map fun (i, x) => (i, a.eval x))) (by simp only [execOp, hop]) (buildSlice_ok r f hvs hx), .buildSlice hx⟩
    · cases hx
  case _ t p => -- load
    split at hx
    · rename_i v hv
      obtain ⟨h1, rfl⟩ := map_pair hx
      exact ⟨.same r (s := Instr.loadAt t (a.eval p)) (by simp only [execOp, hop]) (load_ok r (ev_R f hv) h1), .refl _ _⟩
    · cases hx
  case _ t p y => -- store
    split at hx
    · rename_i pv v hp hv
      split at hx
      · rename_i h2 hst
        simp only [Option.some.injEq, Prod.mk.injEq] at hx
        obtain ⟨rfl, rfl⟩ := hx
        obtain ⟨w', hrun, e, r'⟩ := store_ok (P := P) r (ev_R f hp) (ev_R f hv) hst
        exact ⟨⟨.skip, undef, w', by simp only [execOp, hop, Sem.run_bind, hrun, Result.andThen_ok, Sem.run_pure], .inr ⟨rfl, rfl⟩, m, e, r', .no⟩, .store hst⟩
      · cases hx
    · cases hx
  case _ y => -- nilCheck
    split at hx
    · rename_i v hv
      obtain ⟨h1, rfl⟩ := map_pair hx
      have hr := ev_R f hv
      obtain ⟨rfl, h2⟩ := nilCheck_ok hr h1
      refine ⟨⟨.value (a.eval y), _, w, ?_, .inl rfl, .same r hr⟩, .refl _ _⟩
      rcases h2 with ⟨ad, h2⟩ | ⟨g, b, c, h2⟩
      · simp only [execOp, hop, h2, Sem.run_pure]
      · simp only [execOp, hop, h2, Sem.run_pure]
    · cases hx
  case _ op t y z _ => -- binOp
    split at hx
    · rename_i b c hb hc
      obtain ⟨h1, rfl⟩ := map_pair hx
      exact ⟨.same r (s := do eqGuard op t y z (a.eval y) (a.eval z); binOp op t (a.eval y) (a.eval z)) (by simp only [execOp, hop]) (bin_ok (ev_R f hb) (ev_R f hc) h1), .refl _ _⟩
    · cases hx
  case _ op t y => -- unOp
    split at hx
    · rename_i b hb
      obtain ⟨h1, rfl⟩ := map_pair hx
      exact ⟨.same r (s := Op.unary op (a.eval y)) (by simp only [execOp, hop]) (un_ok (ev_R f hb) h1), .refl _ _⟩
    · cases hx
  case _ s d y => -- convert
    split at hx
    · rename_i b hb
      exact ⟨.value' (s := convert s d (a.eval y)) (by simp only [execOp, hop]) (conv_ok r (ev_R f hb) hx), .conv hx⟩
    · cases hx
  case _ fn f' c => -- makeFunc
    split at hx
    · rename_i fs cs hfs hcs
      cases hx
      obtain ⟨l1, r1⟩ := evAll_R f hfs
      obtain ⟨l2, r2⟩ := evAll_R f hcs
      refine ⟨.same r (s := Instr.makeFunc fn (f'.map a.eval) (c.map a.eval)) (by simp only [execOp, hop]) ⟨.func fn (f'.map a.eval) (c.map a.eval), by simp [Instr.makeFunc], .func (by simpa using l1) (fun i x v hx hv => r1 i x v hx ?_) (by simpa using l2) (fun i x v hx hv => r2 i x v hx ?_)⟩, .refl _ _⟩
      · simpa using hv
      · simpa using hv
    · cases hx
  case _ t l c => -- makeSlice
    split at hx
    · rename_i b d hb hd
      exact ⟨.value' (s := Instr.makeSlice t (a.eval l) (a.eval c)) (by simp only [execOp, hop]) (makeSlice_ok r (ev_R f hb) (ev_R f hd) hx), .makeSlice hx⟩
    · cases hx
  case _ t y lo hi => -- slice
    split at hx
    · rename_i b hb
      obtain ⟨h1, rfl⟩ := map_pair hx
      refine ⟨.same r (s := Instr.sliceAt t (a.eval y) (lo.map a.eval) (hi.map a.eval) none) (by simp only [execOp, hop, Option.map_none]) (slice_ok r (ev_R f hb) ?_ ?_ ?_ ?_ h1), .refl _ _⟩
      · intro x v hx hv
        cases lo with
        | none => simp at hx
        | some o => simp at hx hv; subst hv; exact ev_R f hx
      · intro x v hx hv
        cases hi with
        | none => simp at hx
        | some o => simp at hx hv; subst hv; exact ev_R f hx
      · simp
      · simp
    · cases hx
  case _ s y g => -- fieldAddr
    split at hx
    · rename_i b hb
      obtain ⟨h1, rfl⟩ := map_pair hx
      exact ⟨.same r (s := Instr.fieldAt s (a.eval y) g) (by simp only [execOp, hop]) (fieldAddr_ok (ev_R f hb) h1), .refl _ _⟩
    · cases hx
  case _ s y g => -- field
    split at hx
    · rename_i b hb
      obtain ⟨h1, rfl⟩ := map_pair hx
      exact ⟨.same r (s := Instr.field s (a.eval y) g) (by simp only [execOp, hop]) (field_ok (ev_R f hb) h1), .refl _ _⟩
    · cases hx
  case _ s y g => -- indexAddr
    split at hx
    · rename_i b c hb hc
      obtain ⟨h1, rfl⟩ := map_pair hx
      exact ⟨.same r (s := Instr.indexAt s (a.eval y) (a.eval g)) (by simp only [execOp, hop]) (indexAddr_ok (ev_R f hb) (ev_R f hc) h1), .refl _ _⟩
    · cases hx
  case _ s y g => -- index
    split at hx
    · rename_i b c hb hc
      obtain ⟨h1, rfl⟩ := map_pair hx
      exact ⟨.same r (s := Instr.index s (a.eval y) (a.eval g)) (by simp only [execOp, hop]) (index_ok (ev_R f hb) (ev_R f hc) h1), .refl _ _⟩
    · cases hx
  case _ y i => -- extract
    split at hx
    · rename_i b hb
      obtain ⟨h1, rfl⟩ := map_pair hx
      exact ⟨.same r (s := Instr.extract (a.eval y) i) (by simp only [execOp, hop]) (extract_ok (ev_R f hb) h1), .refl _ _⟩
    · cases hx
  case _ t => -- makeMap
    exact ⟨.value' (s := Instr.makeMap t none) (by simp only [execOp, hop, Option.map_none]) (makeMap_ok r hx), .makeMap hx⟩
  case _ t p q y => -- mapUpdate
    split at hx
    · rename_i pv qv yv hp hq hv
      split at hx
      · rename_i h2 hst
        simp only [Option.some.injEq, Prod.mk.injEq] at hx
        obtain ⟨rfl, rfl⟩ := hx
        obtain ⟨w', hrun, e, r'⟩ := mapUpdate_ok (P := P) r (ev_R f hp) (ev_R f hq) (ev_R f hv) hst
        exact ⟨⟨.skip, undef, w', by simp only [execOp, hop, Sem.run_bind, hrun, Result.andThen_ok, Sem.run_pure], .inr ⟨rfl, rfl⟩, m, e, r', .no⟩, .mapUpdate hst⟩
      · cases hx
    · cases hx
  case _ t p q y => -- insert
    split at hx
    · rename_i pv qv yv hp hq hv
      split at hx
      · rename_i h2 hst
        simp only [Option.some.injEq, Prod.mk.injEq] at hx
        obtain ⟨rfl, rfl⟩ := hx
        obtain ⟨w', hrun, e, r'⟩ := mapUpdate_ok (P := P) r (ev_R f hp) (ev_R f hq) (ev_R f hv) hst
        exact ⟨⟨.skip, undef, w', by simp only [execOp, hop, Sem.run_bind, hrun, Result.andThen_ok, Sem.run_pure], .inr ⟨rfl, rfl⟩, m, e, r', .no⟩, .mapUpdate hst⟩
      · cases hx
    · cases hx
  case _ t p q ok => -- lookup
    split at hx
    · rename_i pv qv hp hq
      obtain ⟨h1, rfl⟩ := map_pair hx
      exact ⟨.same r (s := Instr.lookup t (a.eval p) (a.eval q) ok) (by simp only [execOp, hop]) (lookup_ok r (ev_R f hp) (ev_R f hq) h1), .refl _ _⟩
    · cases hx
  case _ b args tys => -- builtins
    split at hx
    · cases hx
    · rename_i vs hvs
      obtain ⟨hl, hr⟩ := evAll_R f hvs
      have hres : ∀ (d : Sem Next), (execOp a.eval o) = (do let d ← resolve a.eval { callee := .builtin b, args := args, argTypes := tys } o.type; invoke d.target d.args) := fun _ => by simp only [execOp, hop]
      have hex : (execOp a.eval o) = builtin b tys o.type (args.map fun | .const _ => true | _ => false) (args.map a.eval) := by
        rw [hres (pure .skip)]; rfl
      split at hx
      · rename_i t y htys
        obtain ⟨h1, rfl⟩ := map_pair hx
        have ht : tys = #[t] := by apply Array.ext'; simpa using htys
        have hargs : ∃ v, args.map a.eval = #[v] ∧ R m h' w y v := by
          have h2 : (args.toList.map a.eval).length = 1 := by simpa using hl
          match hm : args.toList.map a.eval, h2 with
          | [v], _ => exact ⟨v, by apply Array.ext'; simpa using hm, hr 0 y v rfl (by rw [hm]; rfl)⟩
        obtain ⟨v, hv, hvr⟩ := hargs
        exact ⟨.same r (s := Builtin.len_ #[t] o.type #[v]) (by rw [hex, ht, hv]; rfl) (len_ok hvr h1), .refl _ _⟩
      · rename_i t u d y htys
        have ht : tys = #[t, u] := by apply Array.ext'; simpa using htys
        have hargs : ∃ v v', args.map a.eval = #[v, v'] ∧ R m h w d v ∧ R m h w y v' := by
          have h2 : (args.toList.map a.eval).length = 2 := by simpa using hl
          match hm : args.toList.map a.eval, h2 with
          | [v, v'], _ => exact ⟨v, v', by apply Array.ext'; simpa using hm, hr 0 d v rfl (by rw [hm]; rfl), hr 1 y v' rfl (by rw [hm]; rfl)⟩
        obtain ⟨v, v', hv, hvr, hvr'⟩ := hargs
        obtain ⟨rfl, hok⟩ := append_ok (P := P) (ty := o.type) r hvr hvr' hx
        exact ⟨.value' (s := Builtin.append_ #[t, t] o.type #[v, v']) (by rw [hex, ht, hv]; rfl) hok, .append hx⟩
      · obtain ⟨h1, rfl⟩ := map_pair hx
        obtain ⟨v, hv, hvr⟩ := min_ok (P := P) (ts := tys) (ty := o.type) (by simpa using hl) hr h1
        refine ⟨.same r (s := Builtin.min_ tys o.type (args.map a.eval)) (by rw [hex]; rfl) ⟨v, ?_, hvr⟩, .refl _ _⟩
        rw [← hv]; congr 2; apply Array.ext'; simp
      · obtain ⟨h1, rfl⟩ := map_pair hx
        obtain ⟨v, hv, hvr⟩ := max_ok (P := P) (ts := tys) (ty := o.type) (by simpa using hl) hr h1
        refine ⟨.same r (s := Builtin.max_ tys o.type (args.map a.eval)) (by rw [hex]; rfl) ⟨v, ?_, hvr⟩, .refl _ _⟩
        rw [← hv]; congr 2; apply Array.ext'; simp
      · rename_i t y htys
        have ht : tys = #[t] := by apply Array.ext'; simpa using htys
        have hargs : ∃ v, args.map a.eval = #[v] ∧ R m h w y v := by
          have h2 : (args.toList.map a.eval).length = 1 := by simpa using hl
          match hm : args.toList.map a.eval, h2 with
          | [v], _ => exact ⟨v, by apply Array.ext'; simpa using hm, hr 0 y v rfl (by rw [hm]; rfl)⟩
        obtain ⟨v, hv, hvr⟩ := hargs
        split at hx
        · rename_i h2 hcl
          simp only [Option.some.injEq, Prod.mk.injEq] at hx
          obtain ⟨rfl, rfl⟩ := hx
          exact ⟨.value' (s := Builtin.clear_ #[t] o.type #[v]) (by rw [hex, ht, hv]; rfl) (clear_ok r hvr hcl), .clear hcl⟩
        · cases hx
      · cases hx
  case _ => cases hx
end
end Go.Ab
namespace Go.Ab
section
variable {P : Program} {m : Mu} {h : Heap} {w : World}
theorem R.bel {x : V} {v : Value} (hr : R m h w x v) : Bel h.length x := by
  induction hr with
  | ptr hlt _ => exact .ptr hlt
  | sl hlt _ _ _ => exact .sl hlt
  | agg hl _ ih =>
    refine .agg fun c hc => ?_
    obtain ⟨i, hi, rfl⟩ := List.getElem_of_mem hc
    exact ih i _ _ (List.getElem?_eq_getElem hi) (Array.getElem?_eq_getElem (by omega))
  | tup hl _ ih =>
    refine .tup fun c hc => ?_
    obtain ⟨i, hi, rfl⟩ := List.getElem_of_mem hc
    exact ih i _ _ (List.getElem?_eq_getElem hi) (Array.getElem?_eq_getElem (by omega))
  | func hl _ hl' _ ih ih' =>
    refine .func (fun c hc => ?_) (fun c hc => ?_)
    · obtain ⟨i, hi, rfl⟩ := List.getElem_of_mem hc
      exact ih i _ _ (List.getElem?_eq_getElem hi) (Array.getElem?_eq_getElem (by omega))
    · obtain ⟨i, hi, rfl⟩ := List.getElem_of_mem hc
      exact ih' i _ _ (List.getElem?_eq_getElem hi) (Array.getElem?_eq_getElem (by omega))
  | iface _ ih => exact .iface ih
  | mref hlt _ => exact .mref hlt
  | _ => exact .rf rfl
theorem BR.bel {cs : List V} {b : Nat} (hb : BR m h w cs b) {c : V} (hc : c ∈ cs) : Bel h.length c := by
  rcases hb with ⟨arr, T, ha, hl, hr⟩ | ⟨k, e, l, es, clock, rfl, _, _⟩ | ⟨l, es, clock, rfl, _, _⟩
  · obtain ⟨i, hi, rfl⟩ := List.getElem_of_mem hc
    obtain ⟨v, _, hv⟩ := hr i _ (List.getElem?_eq_getElem hi)
    exact hv.bel
  · rw [List.mem_singleton.1 hc]; exact .rf rfl
  · rw [List.mem_singleton.1 hc]; exact .rf rfl
theorem live_take {h : Heap} {n x : Nat} (hl : live (h.take n) x) : x < n ∧ live h x := by
  obtain ⟨cs, hc⟩ := hl
  rw [List.getElem?_take] at hc
  split at hc
  · rename_i hx; exact ⟨hx, cs, hc⟩
  · cases hc
theorem Imm.take {n b : Nat} (hi : Imm m h w b) : Imm m (h.take n) w b := ⟨hi.1, hi.2.1, fun x hx => hi.2.2 x (live_take hx).2⟩
theorem R.take {n : Nat} (hn : n ≤ h.length) {x : V} {v : Value} (hr : R m h w x v) (hb : Bel n x) : R m (h.take n) w x v := by
  have hlen : (h.take n).length = n := by simp; omega
  induction hr with
  | any v => exact .any v
  | no => exact .no
  | bool b => exact .bool b
  | int k n => exact .int k n
  | str s => exact .str s
  | nilp => exact .nilp
  | ptr hlt hv =>
    cases hb with
    | rf h => simp [V.rf] at h
    | ptr hlt' => exact .ptr (by omega) fun hl => hv (live_take hl).2
  | lptr rv hi hc hf _ ih => exact .lptr rv hi.take hc hf fun i c hic => ih i c hic (.rf (hf i c hic))
  | nils => exact .nils
  | sl hlt hcap hlen hv =>
    cases hb with
    | rf h => simp [V.rf] at h
    | sl hlt' => exact .sl (by omega) hcap hlen fun hl => hv (live_take hl).2
  | lst0 a rc ha => exact .lst0 a rc ha
  | lst rv hi hrc hk hc hf _ ih => exact .lst rv hi.take hrc hk hc hf fun i e j c he hj => ih i e j c he hj (.rf (hf i e j c he hj))
  | agg hl _ ih =>
    cases hb with
    | rf h => simp [V.rf] at h
    | agg h => exact .agg hl fun i c v hc hv => ih i c v hc hv (h c (List.mem_of_getElem? hc))
  | tup hl _ ih =>
    cases hb with
    | rf h => simp [V.rf] at h
    | tup h => exact .tup hl fun i c v hc hv => ih i c v hc hv (h c (List.mem_of_getElem? hc))
  | func hl _ hl' _ ih ih' =>
    cases hb with
    | rf h => simp [V.rf] at h
    | func h h' => exact .func hl (fun i c v hc hv => ih i c v hc hv (h c (List.mem_of_getElem? hc))) hl' (fun i c v hc hv => ih' i c v hc hv (h' c (List.mem_of_getElem? hc)))
  | nilf => exact .nilf
  | nili => exact .nili
  | nilm => exact .nilm
  | iface _ ih =>
    cases hb with
    | rf h => simp [V.rf] at h
    | iface h => exact .iface (ih h)
  | mref hlt hv =>
    cases hb with
    | rf h => simp [V.rf] at h
    | mref hlt' => exact .mref (by omega) fun hl => hv (live_take hl).2
theorem mapM_some {f : V → Option V} : ∀ {xs ys : List V}, xs.mapM f = some ys → xs.length = ys.length ∧ ∀ (i : Nat) (y : V), ys[i]? = some y → ∃ x, xs[i]? = some x ∧ f x = some y
  | [], ys, hx => by simp at hx; subst hx; simp
  | x :: xs, ys, hx => by
    simp only [List.mapM_cons, Option.bind_eq_bind, Option.bind_eq_some_iff, Option.pure_def] at hx
    obtain ⟨y, h1, ys', h2, h3⟩ := hx
    cases h3
    obtain ⟨hl, ih⟩ := mapM_some h2
    refine ⟨by simp [hl], fun i z hz => ?_⟩
    cases i with
    | zero => simp at hz; subst hz; exact ⟨x, rfl, h1⟩
    | succ i => simpa using ih i z (by simpa using hz)
theorem chunk_length (k : Nat) : ∀ (n : Nat) (cs : List V), (chunk k n cs).length = n
  | 0, _ => rfl
  | n + 1, cs => by simp [chunk, chunk_length k n]
theorem chunk_get (k : Nat) : ∀ (n : Nat) (cs : List V) (i : Nat) (e : List V), n * k ≤ cs.length → (chunk k n cs)[i]? = some e → e.length = k ∧ i < n ∧ ∀ (j : Nat) (c : V), e[j]? = some c → cs[i * k + j]? = some c
  | 0, cs, i, e, _, he => by simp [chunk] at he
  | n + 1, cs, i, e, hl, he => by
    have hm : (n + 1) * k = n * k + k := by rw [Nat.add_mul, Nat.one_mul]
    cases i with
    | zero =>
      simp [chunk] at he
      subst he
      refine ⟨by simp; omega, by omega, fun j c hj => ?_⟩
      rw [List.getElem?_take] at hj
      split at hj
      · simpa using hj
      · cases hj
    | succ i =>
      simp only [chunk, List.getElem?_cons_succ] at he
      obtain ⟨h1, h2, h3⟩ := chunk_get k n (cs.drop k) i e (by simp; omega) he
      refine ⟨h1, by omega, fun j c hj => ?_⟩
      have := h3 j c hj
      rw [List.getElem?_drop] at this
      rw [show (i + 1) * k + j = k + (i * k + j) by rw [Nat.add_mul]; omega]
      exact this
theorem frz_ok (r : Rel m h w) {n : Nat} (hn : n ≤ h.length) : ∀ (d : Nat) {x y : V} {v : Value}, R m h w x v → frz h n d x = some y → R m (h.take n) w y v
  | 0, x, y, v, _, hf => by simp [frz] at hf
  | d + 1, x, y, v, hr, hf => by
    have hlen : (h.take n).length = n := by simp; omega
    simp only [frz] at hf
    split at hf
    · rename_i b off len cap k
      split at hf
      · rename_i hb
        cases hf
        exact hr.take hn (.sl hb)
      · rename_i hb
        split at hf
        · rename_i cs hbl
          split at hf
          · rename_i hle
            split at hf
            · rename_i cs' hcs'
              split at hf
              · rename_i hrf
                cases hf
                obtain ⟨b', rc, arr, T, hmb, rfl, hcap, hlrc, hsz, ha, hcl, hpt⟩ := hr.sl_at r hbl
                obtain ⟨hml, hmg⟩ := mapM_some hcs'
                have hlen2 : cs'.length = len * k := by rw [← hml]; simp; omega
                have hcell : ∀ (q : Nat) (c : V), cs'[q]? = some c → ∃ u, w.cell? ⟨b', off + q, none⟩ = some u ∧ R m (h.take n) w c u := by
                  intro q c hq
                  obtain ⟨c0, hc0, hfc⟩ := hmg q c hq
                  obtain ⟨u, hu, hur⟩ := (hpt.drop_take off (len * k)) q c0 hc0
                  rw [Nat.zero_add] at hu
                  exact ⟨u, hu, frz_ok r hn d hur hfc⟩
                by_cases h0 : len = 0
                · subst h0; exact .lst0 _ _ (fun h => by cases h)
                · have himm : Imm m (h.take n) w b' := by
                    refine ⟨r.lt b b' ⟨cs, live_of_blockOf hbl⟩ hmb, r.zo b b' ⟨cs, live_of_blockOf hbl⟩ hmb, fun z hz hzb => ?_⟩
                    obtain ⟨hz1, hz2⟩ := live_take hz
                    have := r.inj z b b' hz2 ⟨cs, live_of_blockOf hbl⟩ hzb hmb
                    omega
                  have hcl2 : (chunk k len cs').length = len := chunk_length _ _ _
                  let rv : Nat → Nat → Value := fun i j => ((w.cell? ⟨b', off + (i * k + j), none⟩).getD undef)
                  have hrv : ∀ (i : Nat) (e : List V) (j : Nat) (c : V), (chunk k len cs')[i]? = some e → e[j]? = some c → w.cell? ⟨b', off + i * k + j, none⟩ = some (rv i j) ∧ R m (h.take n) w c (rv i j) ∧ c.rf = true := by
                    intro i e j c he hj
                    obtain ⟨_, _, h3⟩ := chunk_get k len cs' i e (by omega) he
                    have hq := h3 j c hj
                    obtain ⟨u, hu, hur⟩ := hcell _ c hq
                    have hre : rv i j = u := by simp [rv, hu]
                    refine ⟨by rw [hre, Nat.add_assoc]; exact hu, by rw [hre]; exact hur, List.all_eq_true.1 hrf c (List.mem_of_getElem? hq)⟩
                  have := R.lst (m := m) (h := h.take n) (w := w) (xs := chunk k len cs') (b := b') (o := off) (k := k) (rc := rc) rv himm (by omega)
                    (fun i e he => (chunk_get k len cs' i e (by omega) he).1) (fun i e j c he hj => (hrv i e j c he hj).1) (fun i e j c he hj => (hrv i e j c he hj).2.2) (fun i e j c he hj => (hrv i e j c he hj).2.1)
                  rwa [hcl2] at this
              · cases hf
            · cases hf
          · cases hf
        · cases hf
    · rename_i b off
      split at hf
      · rename_i hb; cases hf; exact hr.take hn (.ptr hb)
      · cases hf
    · rename_i b
      split at hf
      · rename_i hb; cases hf; exact hr.take hn (.mref hb)
      · cases hf
    · cases hf; cases hr; exact .lst0 _ _ (fun _ => rfl)
    · rename_i cs
      split at hf
      · rename_i cs' hcs'
        cases hf
        obtain ⟨hml, hmg⟩ := mapM_some hcs'
        cases hr with
        | agg hl hr =>
          refine .agg (by omega) fun i c u hc hu => ?_
          obtain ⟨c0, hc0, hfc⟩ := hmg i c hc
          exact frz_ok r hn d (hr i c0 u hc0 hu) hfc
      · cases hf
    · rename_i cs
      split at hf
      · rename_i cs' hcs'
        cases hf
        obtain ⟨hml, hmg⟩ := mapM_some hcs'
        cases hr with
        | tup hl hr =>
          refine .tup (by omega) fun i c u hc hu => ?_
          obtain ⟨c0, hc0, hfc⟩ := hmg i c hc
          exact frz_ok r hn d (hr i c0 u hc0 hu) hfc
      · cases hf
    · cases hf; exact hr.take hn (.func (by simp) (by simp))
    · cases hf
    · cases hf
    · rename_i h1 h2 hm hnl h3 h4 h5 h6 h7
      cases hf
      refine hr.take hn (.rf ?_)
      cases x <;> first | rfl | (exact absurd rfl (h1 _ _ _ _ _)) | (exact absurd rfl (h2 _ _)) | (exact absurd rfl (hm _)) | (exact absurd rfl (h3 _)) | (exact absurd rfl (h4 _)) | (exact absurd rfl (h6 _ _ _)) | (exact absurd rfl (h7 _ _))
def CallOK (P : Program) (call : Callf) : Prop := ∀ cfg f args h r h', call cfg f args h = some (r, h') → HS cfg h h' ∧ (∃ fn, P.funcs[f]? = some fn ∧ fn.body.isNone = false) ∧
  ∀ m w vs, Rel m h w → PW m h w args vs → Calls P f vs w fun e w' => ∃ v, e = .returned v ∧ Out m h w r h' v w'
theorem Inv.of_rel (r : Rel m h w) : Inv (fun x => ∃ b, m x = some b) h h.length := by
  rintro x cs hx ⟨b, hb⟩ hc c hcc
  rcases r.blk x cs b hc hb with ⟨arr, T, ha, hl, hr⟩ | ⟨k, e, l, es, clock, rfl, _, _⟩ | ⟨l, es, clock, rfl, _, _⟩
  · obtain ⟨i, hi, rfl⟩ := List.getElem_of_mem hcc
    obtain ⟨v, _, hv⟩ := hr i _ (List.getElem?_eq_getElem hi)
    exact hv.bel
  · rw [List.mem_singleton.1 hcc]; exact .rf rfl
  · rw [List.mem_singleton.1 hcc]; exact .rf rfl
theorem Out.cut {x y : V} {h' : Heap} {v : Value} {w' : World} {cfg : Cfg} (r : Rel m h w) (hs : HS cfg h h') (hthr : h.length ≤ cfg.thr) (ho : Out m h w x h' v w') (hf : frz h' h.length 6 x = some y) :
    Out m h w y (h'.take h.length) v w' := by
  obtain ⟨m', e, r', hr⟩ := ho
  have hlen : (h'.take h.length).length = h.length := by have := hs.len; simp; omega
  have hinv := hs.inv _ _ hthr (Nat.le_refl _) (Inv.of_rel r)
  refine ⟨m', ⟨e.zeq, by omega, fun x hx hl => e.keep x hx (live_take hl).2, fun x b hl hb => e.own x b (live_take hl).2 hb, e.frame, e.size, e.rs, e.os, e.tape, e.output⟩,
    ⟨fun x b hl hb => r'.zo x b (live_take hl).2 hb, r'.zl, fun x y b hx hy => r'.inj x y b (live_take hx).2 (live_take hy).2, fun x cs b hx hb => ?_⟩, frz_ok r' hs.len 6 hr hf⟩
  have hx' : x < h.length ∧ h'[x]? = some (some cs) := by
    rw [List.getElem?_take] at hx
    split at hx
    · rename_i h1; exact ⟨h1, hx⟩
    · cases hx
  have hk := e.keep x hx'.1 ⟨cs, hx'.2⟩
  exact (r'.blk x cs b hx'.2 hb).carry rfl fun c u hcm hur => hur.take hs.len (hinv x cs hx'.1 ⟨b, hk.2 ▸ hb⟩ hx'.2 c hcm)
theorem HS.cut {cfg cfg' : Cfg} {h' : Heap} (hs : HS cfg' h h') (hthr : h.length ≤ cfg'.thr) (hw : ∀ b, b < h.length → cfg.wr b = false → cfg'.wr b = false) : HS cfg h (h'.take h.length) := by
  refine ⟨by have := hs.len; simp; omega, fun b hb hwb => ?_, fun D t _ h2 hi b cs hb hD hc c hcc => ?_⟩
  · rw [List.getElem?_take, if_pos hb]
    exact hs.prot b hb (hw b hb hwb)
  · rw [List.getElem?_take, if_pos (by omega)] at hc
    exact hs.inv D t (by omega) h2 hi b cs hb hD hc c hcc
theorem R.conv {m' : Mu} {h' : Heap} (hi : ∀ b, Imm m h w b → Imm m' h' w b) {x : V} {v : Value} (hr : R m h w x v) (hb : Bel 0 x) : R m' h' w x v := by
  induction hr with
  | any v => exact .any v
  | no => exact .no
  | bool b => exact .bool b
  | int k n => exact .int k n
  | str s => exact .str s
  | nilp => exact .nilp
  | ptr hlt hv =>
    cases hb with
    | rf h => simp [V.rf] at h
    | ptr hlt' => omega
  | lptr rv hm hc hf _ ih => exact .lptr rv (hi _ hm) hc hf fun i c hic => ih i c hic (.rf (hf i c hic))
  | nils => exact .nils
  | sl hlt hcap hlen hv =>
    cases hb with
    | rf h => simp [V.rf] at h
    | sl hlt' => omega
  | lst0 a rc ha => exact .lst0 a rc ha
  | lst rv hm hrc hk hc hf _ ih => exact .lst rv (hi _ hm) hrc hk hc hf fun i e j c he hj => ih i e j c he hj (.rf (hf i e j c he hj))
  | agg hl _ ih =>
    cases hb with
    | rf h => simp [V.rf] at h
    | agg h => exact .agg hl fun i c v hc hv => ih i c v hc hv (h c (List.mem_of_getElem? hc))
  | tup hl _ ih =>
    cases hb with
    | rf h => simp [V.rf] at h
    | tup h => exact .tup hl fun i c v hc hv => ih i c v hc hv (h c (List.mem_of_getElem? hc))
  | func hl _ hl' _ ih ih' =>
    cases hb with
    | rf h => simp [V.rf] at h
    | func h h' => exact .func hl (fun i c v hc hv => ih i c v hc hv (h c (List.mem_of_getElem? hc))) hl' (fun i c v hc hv => ih' i c v hc hv (h' c (List.mem_of_getElem? hc)))
  | nilf => exact .nilf
  | nili => exact .nili
  | nilm => exact .nilm
  | iface _ ih =>
    cases hb with
    | rf h => simp [V.rf] at h
    | iface h => exact .iface (ih h)
  | mref hlt hv =>
    cases hb with
    | rf h => simp [V.rf] at h
    | mref hlt' => omega
theorem R.unnil {x : V} {v : Value} (hr : R m h w x v) : R m h w (unnil x) v := by
  cases hr <;> first | exact .lst0 _ _ (fun _ => rfl) | exact .lst0 _ _ ‹_› | (simp only [Ab.unnil]; constructor <;> assumption)
theorem bel_noref {x : V} (hx : x.noref = true) : Bel 0 x := by
  have key : ∀ cs : List V, cs.all V.rf = true → ∀ c ∈ cs, Bel 0 c := fun cs h c hc => .rf (List.all_eq_true.1 h c hc)
  cases x <;> first
    | (simp [V.noref, V.rf] at hx; done)
    | exact .rf rfl
    | exact .agg (key _ hx)
    | exact .tup (key _ hx)
    | (simp only [V.noref, Bool.and_eq_true] at hx; exact .func (key _ hx.1) (key _ hx.2))
theorem rel_empty (r : Rel m h w) : Rel m [] w :=
  ⟨fun _ _ h _ => by obtain ⟨cs, hc⟩ := h; simp at hc, r.zl, fun _ _ _ h => by obtain ⟨cs, hc⟩ := h; simp at hc, fun _ _ _ h => by simp at h⟩
theorem no_live {x : Nat} (hl : live [] x) : False := by obtain ⟨cs, hc⟩ := hl; simp at hc
theorem kept_empty {m0 m' : Mu} {h' : Heap} {w' : World} (r : Rel m h w) (e : Evo m0 [] w m' h' w') : Evo m h w m h w' ∧ Rel m h w' := by
  have hfr : ∀ b, b < w.heap.size → w'.heap[b]? = w.heap[b]? := fun b hb => e.frame b hb fun x hl => (no_live hl).elim
  have ev : Evo m h w m h w' := ⟨rfl, Nat.le_refl _, fun x _ hl => ⟨hl, rfl⟩, fun x b hl hb => .inl ⟨x, hl, hb⟩, fun b hb _ => hfr b hb, e.size, e.rs, e.os, e.tape, e.output⟩
  refine ⟨ev, r.zo, fun b hz => Nat.lt_of_lt_of_le (r.zl b hz) e.size, r.inj, fun x cs b hc hb => ?_⟩
  exact (r.blk x cs b hc hb).carry (hfr b (r.lt x b ⟨cs, hc⟩ hb)) fun c v _ hvr => hvr.evo ev r.lt
theorem frz_own {m' : Mu} {h' : Heap} {w' : World} (r : Rel m' h' w') (hfresh : ∀ x b, live h' x → m' x = some b → Imm m h w' b) :
    ∀ (d : Nat) {x y : V} {v : Value}, R m' h' w' x v → own h' d x = true → frz h' 0 d x = some y → R m h w' y v
  | 0, x, y, v, _, ho, hf => by simp [frz] at hf
  | d + 1, x, y, v, hr, ho, hf => by
    simp only [frz] at hf
    split at hf
    · rename_i b off len cap k
      split at hf
      · omega
      · split at hf
        · rename_i cs hbl
          simp only [own, hbl] at ho
          split at hf
          · rename_i hle
            split at hf
            · rename_i cs' hcs'
              split at hf
              · rename_i hrf
                cases hf
                obtain ⟨b', rc, arr, T, hmb, rfl, hcap, hlrc, hsz, ha, hcl, hpt⟩ := hr.sl_at r hbl
                obtain ⟨hml, hmg⟩ := mapM_some hcs'
                have hlen2 : cs'.length = len * k := by rw [← hml]; simp; omega
                have hcell : ∀ (q : Nat) (c : V), cs'[q]? = some c → ∃ u, w'.cell? ⟨b', off + q, none⟩ = some u ∧ R m h w' c u := by
                  intro q c hq
                  obtain ⟨c0, hc0, hfc⟩ := hmg q c hq
                  obtain ⟨u, hu, hur⟩ := (hpt.drop_take off (len * k)) q c0 hc0
                  rw [Nat.zero_add] at hu
                  exact ⟨u, hu, frz_own r hfresh d hur (List.all_eq_true.1 ho c0 (List.mem_of_getElem? hc0)) hfc⟩
                by_cases h0 : len = 0
                · subst h0; exact .lst0 _ _ (fun h => by cases h)
                · have himm : Imm m h w' b' := hfresh b b' ⟨cs, live_of_blockOf hbl⟩ hmb
                  have hcl2 : (chunk k len cs').length = len := chunk_length _ _ _
                  let rv : Nat → Nat → Value := fun i j => ((w'.cell? ⟨b', off + (i * k + j), none⟩).getD undef)
                  have hrv : ∀ (i : Nat) (e : List V) (j : Nat) (c : V), (chunk k len cs')[i]? = some e → e[j]? = some c → w'.cell? ⟨b', off + i * k + j, none⟩ = some (rv i j) ∧ R m h w' c (rv i j) ∧ c.rf = true := by
                    intro i e j c he hj
                    obtain ⟨_, _, h3⟩ := chunk_get k len cs' i e (by omega) he
                    have hq := h3 j c hj
                    obtain ⟨u, hu, hur⟩ := hcell _ c hq
                    have hre : rv i j = u := by simp [rv, hu]
                    refine ⟨by rw [hre, Nat.add_assoc]; exact hu, by rw [hre]; exact hur, List.all_eq_true.1 hrf c (List.mem_of_getElem? hq)⟩
                  have := R.lst (m := m) (h := h) (w := w') (xs := chunk k len cs') (b := b') (o := off) (k := k) (rc := rc) rv himm (by omega)
                    (fun i e he => (chunk_get k len cs' i e (by omega) he).1) (fun i e j c he hj => (hrv i e j c he hj).1) (fun i e j c he hj => (hrv i e j c he hj).2.2) (fun i e j c he hj => (hrv i e j c he hj).2.1)
                  rwa [hcl2] at this
              · cases hf
            · cases hf
          · cases hf
        · cases hf
    · simp [own] at ho
    · simp [own] at ho
    · cases hf; cases hr; exact .lst0 _ _ (fun _ => rfl)
    · rename_i cs
      simp only [own] at ho
      split at hf
      · rename_i cs' hcs'
        cases hf
        obtain ⟨hml, hmg⟩ := mapM_some hcs'
        cases hr with
        | agg hl hr =>
          refine .agg (by omega) fun i c u hc hu => ?_
          obtain ⟨c0, hc0, hfc⟩ := hmg i c hc
          exact frz_own r hfresh d (hr i c0 u hc0 hu) (List.all_eq_true.1 ho c0 (List.mem_of_getElem? hc0)) hfc
      · cases hf
    · rename_i cs
      simp only [own] at ho
      split at hf
      · rename_i cs' hcs'
        cases hf
        obtain ⟨hml, hmg⟩ := mapM_some hcs'
        cases hr with
        | tup hl hr =>
          refine .tup (by omega) fun i c u hc hu => ?_
          obtain ⟨c0, hc0, hfc⟩ := hmg i c hc
          exact frz_own r hfresh d (hr i c0 u hc0 hu) (List.all_eq_true.1 ho c0 (List.mem_of_getElem? hc0)) hfc
      · cases hf
    · simp [own] at ho
    · simp [own] at ho
    · simp [own] at ho
    · rename_i h1 h2 hm hnl h3 h4 h5 h6 h7
      cases hf
      cases hr with
      | any _ => simp [own] at ho
      | no => exact .no
      | bool _ => exact .bool _
      | int _ _ => exact .int _ _
      | str _ => exact .str _
      | nilp => exact .nilp
      | ptr _ _ => exact absurd rfl (h2 _ _)
      | lptr _ _ _ _ _ => simp [own] at ho
      | nils => exact absurd rfl hnl
      | sl _ _ _ _ => exact absurd rfl (h1 _ _ _ _ _)
      | lst0 a rc ha => exact .lst0 a rc ha
      | lst rv hi hrc hk hc hf hr =>
        rename_i xs _ _ _ _
        cases xs with
        | nil => exact .lst0 _ _ (fun h => by cases h)
        | cons _ _ => simp [own] at ho
      | agg _ _ => exact absurd rfl (h3 _)
      | tup _ _ => exact absurd rfl (h4 _)
      | func _ _ _ _ => exact absurd rfl (h6 _ _ _)
      | nilf => exact .nilf
      | nili => exact .nili
      | nilm => exact .nilm
      | iface _ => exact absurd rfl (h7 _ _)
      | mref _ _ => exact absurd rfl (hm _)
theorem callM_ok {md : FuncId → Nat} {call : Callf} (hcall : CallOK P call) {cfg : Cfg} {f : FuncId} {args : List V} {h : Heap} {x : V} {h' : Heap} (hx : callM md call cfg f args h = some (x, h')) :
    HS cfg h h' ∧ (∃ fn, P.funcs[f]? = some fn ∧ fn.body.isNone = false) ∧ ∀ m w vs, Rel m h w → PW m h w args vs → Calls P f vs w fun e w' => ∃ v, e = .returned v ∧ Out m h w x h' v w' := by
  unfold callM at hx
  split at hx
  · split at hx
    · rename_i hall
      split at hx
      · rename_i r h2 hc
        split at hx
        · rename_i r' hf
          simp only [Option.some.injEq, Prod.mk.injEq] at hx
          obtain ⟨rfl, rfl⟩ := hx
          obtain ⟨hs, hfn, hsound⟩ := hcall _ _ _ _ _ _ hc
          refine ⟨.refl _ _, hfn, fun m w vs hr hp => ?_⟩
          let m0 : Mu := ⟨fun _ => none, fun b => b < w.heap.size ∧ (m.z b ∨ ∃ x, live h x ∧ m x = some b)⟩
          have r0 : Rel m0 [] w := ⟨fun _ _ h _ => (no_live h).elim, fun b hb => hb.1, fun _ _ _ h => (no_live h).elim, fun _ _ _ h => by simp at h⟩
          have hi0 : ∀ b, Imm m h w b → Imm m0 [] w b := by
            rintro b ⟨h1, h2, h3⟩
            refine ⟨h1, ?_, fun x hl => (no_live hl).elim⟩
            rintro ⟨_, hz | ⟨x, hl, hb⟩⟩
            · exact h2 hz
            · exact h3 x hl hb
          have hp0 : PW m0 [] w args vs := ⟨hp.1, fun i c v hc hv => (hp.2 i c v hc hv).conv hi0 (bel_noref (List.all_eq_true.1 hall c (List.mem_of_getElem? hc)))⟩
          refine (hsound m0 w vs r0 hp0).mono ?_
          rintro e w' ⟨v, he, m', ev, r', hvr⟩
          obtain ⟨ev', rl'⟩ := kept_empty hr ev
          have hfz := frz_ok r' (Nat.zero_le _) 6 hvr hf
          rw [List.take_zero] at hfz
          refine ⟨v, he, m, ev', rl', hfz.conv (fun b hb => ?_) hfz.bel⟩
          obtain ⟨h1, h2, _⟩ := hb
          rw [ev.zeq] at h2
          refine ⟨h1, fun hz => h2 ⟨hr.zl b hz, .inl hz⟩, fun x hl hxb => h2 ⟨hr.lt x b hl hxb, .inr ⟨x, hl, hxb⟩⟩⟩
        · cases hx
      · cases hx
    · split at hx
      · rename_i r h2 hc
        split at hx
        · rename_i r' hf
          simp only [Option.some.injEq, Prod.mk.injEq] at hx
          obtain ⟨rfl, rfl⟩ := hx
          obtain ⟨hs, hfn, hsound⟩ := hcall _ _ _ _ _ _ hc
          refine ⟨hs.cut (Nat.le_refl _) fun b hb _ => ?_, hfn, fun m w vs hr hp => (hsound m w vs hr hp).mono ?_⟩
          · simp [Cfg.wr]; omega
          · rintro e w' ⟨v, he, ho⟩
            exact ⟨v, he, ho.cut hr hs (Nat.le_refl _) hf⟩
        · cases hx
      · cases hx
  · split at hx
    · rename_i r h2 hc
      split at hx
      · rename_i r' hf
        simp only [Option.some.injEq, Prod.mk.injEq] at hx
        obtain ⟨rfl, rfl⟩ := hx
        obtain ⟨hs, hfn, hsound⟩ := hcall _ _ _ _ _ _ hc
        refine ⟨hs.cut (Nat.le_refl _) fun b _ hw => hw, hfn, fun m w vs hr hp => (hsound m w vs hr hp).mono ?_⟩
        rintro e w' ⟨v, he, ho⟩
        exact ⟨v, he, ho.cut hr hs (Nat.le_refl _) hf⟩
      · cases hx
    · cases hx
  · split at hx
    · rename_i r h2 hc
      split at hx
      · rename_i r' hf
        simp only [Option.some.injEq, Prod.mk.injEq] at hx
        obtain ⟨rfl, rfl⟩ := hx
        obtain ⟨hs, hfn, hsound⟩ := hcall _ _ _ _ _ _ hc
        refine ⟨hs.cut (Nat.le_refl _) fun b _ hw => hw, hfn, fun m w vs hr hp => (hsound m w vs hr hp).mono ?_⟩
        rintro e w' ⟨v, he, ho⟩
        exact ⟨v, he, ho.cut hr hs (Nat.le_refl _) hf⟩
      · cases hx
    · cases hx
  · split at hx
    · cases hx
    · rename_i args' hargs
      split at hx
      · rename_i r h2 hc
        split at hx
        · rename_i hown
          split at hx
          · rename_i r' hf
            simp only [Option.some.injEq, Prod.mk.injEq] at hx
            obtain ⟨rfl, rfl⟩ := hx
            obtain ⟨hs, hfn, hsound⟩ := hcall _ _ _ _ _ _ hc
            refine ⟨.refl _ _, hfn, fun m w vs hr hp => ?_⟩
            obtain ⟨hml, hmg⟩ := mapM_some hargs
            have hp0 : PW m [] w args' vs := by
              refine ⟨by rw [← hml]; exact hp.1, fun i c v hc hv => ?_⟩
              obtain ⟨c0, hc0, hfc⟩ := hmg i c hc
              simp only [frzA, Option.map_eq_some_iff] at hfc
              obtain ⟨c1, hfc, rfl⟩ := hfc
              have := frz_ok hr (Nat.zero_le _) 6 (hp.2 i c0 v hc0 hv) hfc
              rw [List.take_zero] at this
              exact this.unnil
            refine (hsound m w vs (rel_empty hr) hp0).mono ?_
            rintro e w' ⟨v, he, m', ev, r', hvr⟩
            obtain ⟨ev', rl'⟩ := kept_empty hr ev
            refine ⟨v, he, m, ev', rl', frz_own r' (fun x b hl hb => ?_) 6 hvr hown hf⟩
            have hge : w.heap.size ≤ b := by
              rcases ev.own x b hl hb with ⟨y, hy, _⟩ | hge
              · exact (no_live hy).elim
              · exact hge
            refine ⟨r'.lt x b hl hb, fun hz => ?_, fun y hy hyb => ?_⟩
            · have := hr.zl b hz; omega
            · have := hr.lt y b hy hyb; omega
          · cases hx
        · cases hx
      · cases hx
  · exact hcall _ _ _ _ _ _ hx
end
end Go.Ab
namespace Go.Ab
variable [Base]
def Named (P : Program) : Prop := ∀ (g : Nat) (fn : Func), P.funcs[g]? = some fn → (fn.name == "runtime.NumGoroutine") = false
section
variable {P : Program} {m : Mu} {h : Heap} {w : World}
theorem wantd_ok {ops : Array Oper} {fr : List V} {a : Act} {o : Oper} {b : Bool} (f : FR m h w fr a) (hw : wantd ops fr o = some b) : Region.wanted o (yielded ops a.tmps) = b := by
  unfold wantd at hw
  split at hw
  · rename_i hg; cases hw; simp [Region.wanted, hg]
  · rename_i j want hg
    split at hw
    · rename_i p hp
      split at hw
      · rename_i d hd
        split at hw
        · rename_i b' hb
          cases hw
          have hlt : d < a.tmps.size := by rw [← f.len]; exact (List.getElem?_eq_some_iff.1 hb).1
          have hr := f.slot d _ _ hb (Array.getElem?_eq_getElem hlt)
          generalize hv : a.tmps[d] = v at hr
          cases hr
          have : a.tmps[d]? = some (.bool b') := by rw [Array.getElem?_eq_getElem hlt, hv]
          simp [Region.wanted, hg, yielded, hp, hd, this]
        · rename_i hb
          cases hw
          have hlt : d < a.tmps.size := by rw [← f.len]; exact (List.getElem?_eq_some_iff.1 hb).1
          have hr := f.slot d _ _ hb (Array.getElem?_eq_getElem hlt)
          generalize hv : a.tmps[d] = v at hr
          cases hr
          have : a.tmps[d]? = some undef := by rw [Array.getElem?_eq_getElem hlt, hv]
          simp [Region.wanted, hg, yielded, hp, hd, this, undef]
        · cases hw
      · cases hw
    · cases hw
theorem append_PW {xs ys : List V} {us vs : Array Value} (h1 : PW m h w xs us) (h2 : PW m h w ys vs) : PW m h w (xs ++ ys) (us ++ vs) := by
  have := PW.append (xs := us.toList) (ys := vs.toList) (by simpa using h1) (by simpa using h2)
  have e : (us.toList ++ vs.toList).toArray = us ++ vs := by apply Array.ext'; simp
  rwa [e] at this
theorem opV_HS {cfg : Cfg} {fr : List V} {h h' : Heap} {op : Op} {x : V} (hx : opV P cfg fr h op = some (x, h')) : HS cfg h h' := by
  unfold opV at hx
  repeat' split at hx
  all_goals first
    | (cases hx; done)
    | (obtain ⟨_, rfl⟩ := map_pair hx; exact .refl _ _)
    | (cases hx; exact .push _ _ _)
    | exact .buildSlice hx
    | exact .makeSlice hx
    | exact .conv hx
    | exact .append hx
    | exact .makeMap hx
    | (simp only [Option.some.injEq, Prod.mk.injEq] at hx; obtain ⟨_, rfl⟩ := hx; first | exact .refl _ _ | exact .store ‹_› | exact .clear ‹_› | exact .mapUpdate ‹_›)
theorem opEv_ok (hN : Named P) {md : FuncId → Nat} {call : Callf} (hcall : CallOK P call) {cfg : Cfg} {fr : List V} {h h' : Heap} {o : Oper} {x : V} (hx : opEv P md call cfg fr h o.op = some (x, h')) :
    (∀ m w a, Rel m h w → FR m h w fr a → ∀ (K : Act → World → Prop) (Q : Exit → Act → World → Prop), (∀ v w', Out m h w x h' v w' → K (a.put o.dst v) w') → o.wp P a w K Q) ∧ HS cfg h h' := by
  unfold opEv at hx
  split at hx
  · rename_i f args tys hop
    split at hx
    · rename_i g first captured vs hf hvs
      obtain ⟨hs, ⟨fn, hfn, hbody⟩, hsound⟩ := callM_ok hcall hx
      refine ⟨fun m w a r fR K Q hK => ?_, hs⟩
      have hfr := ev_R fR hf
      obtain ⟨hl, hr⟩ := evAll_R fR hvs
      generalize hfe : a.eval f = fe at hfr
      cases hfr with
      | func hl1 hr1 hl2 hr2 =>
        rename_i fs cs
        have hpw : PW m h w ((first ++ vs) ++ captured) ((fs ++ args.map a.eval) ++ cs) :=
          append_PW (append_PW ⟨hl1, hr1⟩ ⟨by simpa using hl, fun i c v hc hv => hr i c v hc (by simpa using hv)⟩) ⟨hl2, hr2⟩
        have hrun : (execOp a.eval o).run P w = .ok (.enter g ((fs ++ args.map a.eval) ++ cs)) w := by
          simp only [execOp, hop, Sem.run_bind, resolve, hfe, Deferred.ofValue, Sem.run_pure, Result.andThen_ok, invoke, callFunc, run_program, hfn, hN g fn hfn, hbody, Bool.false_eq_true, if_false]
        unfold Oper.wp
        rw [hrun]
        refine (hsound m w _ r hpw).mono ?_
        rintro e w' ⟨v, rfl, ho⟩
        exact hK v w' ho
    · cases hx
  · refine ⟨fun m w a r fR K Q hK => ?_, opV_HS hx⟩
    obtain ⟨⟨nx, v, w', hrun, hnx, ho⟩, _⟩ := opV_ok r fR rfl hx
    unfold Oper.wp
    rw [hrun]
    rcases hnx with rfl | ⟨rfl, rfl⟩
    · exact hK v w' ho
    · exact hK undef w' ho
def After (m : Mu) (h : Heap) (w : World) (fr' : List V) (h' : Heap) (a' : Act) (w' : World) : Prop := ∃ m', Evo m h w m' h' w' ∧ Rel m' h' w' ∧ FR m' h' w' fr' a'
theorem After.trans {fr2 : List V} {h1 h2 : Heap} {a2 : Act} {w1 w2 : World} {m1 : Mu} (e : Evo m h w m1 h1 w1) (k : After m1 h1 w1 fr2 h2 a2 w2) : After m h w fr2 h2 a2 w2 :=
  let ⟨m', e', r', f'⟩ := k
  ⟨m', e.trans e', r', f'⟩
theorem stepOp_ok (hN : Named P) {md : FuncId → Nat} {call : Callf} (hcall : CallOK P call) {cfg : Cfg} {ops : Array Oper} {fr fr' : List V} {h h' : Heap} {o : Oper} (hx : stepOp P md call cfg ops o fr h = some (fr', h')) :
    HS cfg h h' ∧ ∀ m w a, Rel m h w → FR m h w fr a → ∀ (K : Act → World → Prop) (Q : Exit → Act → World → Prop), (∀ a' w', After m h w fr' h' a' w' → K a' w') →
      if Region.wanted o (yielded ops a.tmps) then o.wp P a w K Q ∨ (o.asks P a w ∧ LetsOut Q) else K (a.put o.dst undef) w := by
  unfold stepOp at hx
  split at hx
  · rename_i hw
    split at hx
    · rename_i v h2 hv
      simp only [Option.some.injEq, Prod.mk.injEq] at hx
      obtain ⟨rfl, rfl⟩ := hx
      obtain ⟨hok, hs⟩ := opEv_ok hN hcall hv
      refine ⟨hs, fun m w a r fR K Q hK => ?_⟩
      rw [wantd_ok fR hw]
      simp only [if_true]
      refine .inl (hok m w a r fR K Q fun u w' ⟨m', e, r', hr⟩ => hK _ _ ⟨m', e, r', (fR.evo r e).put hr o.dst⟩)
    · cases hx
  · rename_i hw
    simp only [Option.some.injEq, Prod.mk.injEq] at hx
    obtain ⟨rfl, rfl⟩ := hx
    refine ⟨.refl _ _, fun m w a r fR K Q hK => ?_⟩
    rw [wantd_ok fR hw]
    simp only [Bool.false_eq_true, if_false]
    exact hK _ _ ⟨m, .refl _ _ _, r, fR.put .no o.dst⟩
  · cases hx
theorem runOps_ok (hN : Named P) {md : FuncId → Nat} {call : Callf} (hcall : CallOK P call) {cfg : Cfg} {ops : Array Oper} : ∀ (l : List Oper) {fr fr' : List V} {h h' : Heap}, runOps P md call cfg ops l fr h = some (fr', h') →
    HS cfg h h' ∧ ∀ m w a, Rel m h w → FR m h w fr a → ∀ (Q : Exit → Act → World → Prop), (∀ a' w', After m h w fr' h' a' w' → Q .normal a' w') → wpList P ops Q l a w
  | [], fr, fr', h, h', hx => by
    simp only [runOps, Option.some.injEq, Prod.mk.injEq] at hx
    obtain ⟨rfl, rfl⟩ := hx
    exact ⟨.refl _ _, fun m w a r fR Q hQ => hQ a w ⟨m, .refl _ _ _, r, fR⟩⟩
  | o :: l, fr, fr', h, h', hx => by
    simp only [runOps] at hx
    split at hx
    · rename_i fr1 h1 h2
      obtain ⟨hs1, hstep⟩ := stepOp_ok hN hcall h2
      obtain ⟨hs2, hrest⟩ := runOps_ok hN hcall l hx
      refine ⟨hs1.trans hs2, fun m w a r fR Q hQ => ?_⟩
      simp only [wpList]
      exact hstep m w a r fR _ Q fun a' w' ⟨m', e, r', f'⟩ => hrest m' w' a' r' f' Q fun a2 w2 k => hQ a2 w2 (k.trans e)
    · cases hx
def exOf : Ex → Exit
  | .normal => .normal
  | .exit id => .exit id
  | .ret => .ret
def DrawOK (P : Program) (draw : Drawf) : Prop := ∀ cfg ops fr h fr' h', draw cfg ops fr h = some (fr', h') → HS cfg h h' ∧
  ∀ m w a id, Rel m h w → FR m h w fr a → ∀ (Q : Exit → Act → World → Prop), (∀ a' w', After m h w fr' h' a' w' → Q .normal a' w') → (Code.region id ops true).wp P Q a w
def CodeOK (P : Program) (cfg : Cfg) (c : Code) (fr : List V) (h : Heap) (s : St) : Prop := HS cfg h s.2.2 ∧
  ∀ m w a, Rel m h w → FR m h w fr a → ∀ (Q : Exit → Act → World → Prop), (∀ a' w', After m h w s.2.1 s.2.2 a' w' → Q (exOf s.1) a' w') → c.wp P Q a w
theorem iter_ok {cfg : Cfg} {c : Code} {body : List V → Heap → Option St} (hb : ∀ fr h s, body fr h = some s → CodeOK P cfg c fr h s) : ∀ (n : Nat) (fr : List V) (h : Heap) (s : St), iter body n fr h = some s →
    HS cfg h s.2.2 ∧ s.1 ≠ .normal ∧ ∀ m w a, Rel m h w → FR m h w fr a → ∀ (Q : Exit → Act → World → Prop), (∀ a' w', After m h w s.2.1 s.2.2 a' w' → Q (exOf s.1) a' w') → Code.rounds P c Q n a w
  | 0, fr, h, s, hi => by simp [iter] at hi
  | n + 1, fr, h, s, hi => by
    simp only [iter] at hi
    split at hi
    · rename_i fr1 h1 hb1
      obtain ⟨hs1, hw1⟩ := hb _ _ _ hb1
      obtain ⟨hs2, hne, hw2⟩ := iter_ok hb n fr1 h1 s hi
      refine ⟨hs1.trans hs2, hne, fun m w a r fR Q hQ => ?_⟩
      rw [rounds_succ]
      exact hw1 m w a r fR _ fun a' w' ⟨m', e, r', f'⟩ => hw2 m' w' a' r' f' Q fun a2 w2 k => hQ a2 w2 (k.trans e)
    · rename_i hne
      obtain ⟨hs1, hw1⟩ := hb _ _ _ hi
      have hn : s.1 ≠ .normal := by
        intro e
        obtain ⟨e1, f1, h1⟩ := s
        simp only at e
        subst e
        exact hne f1 h1 hi
      refine ⟨hs1, hn, fun m w a r fR Q hQ => ?_⟩
      rw [rounds_succ]
      refine hw1 m w a r fR _ fun a' w' k => ?_
      have := hQ a' w' k
      revert this
      cases hs : s.1 with
      | normal => exact absurd hs hn
      | exit id => exact fun x => x
      | ret => exact fun x => x
theorem code_ok (hN : Named P) {md : FuncId → Nat} {call : Callf} (hcall : CallOK P call) {draw : Drawf} (hdraw : DrawOK P draw) {cfg : Cfg} {n : Nat} : ∀ (c : Code) (fr : List V) (h : Heap) (s : St),
    code P md call draw cfg n c fr h = some s → CodeOK P cfg c fr h s := by
  intro c
  induction c with
  | skip =>
    intro fr h s hx
    simp only [code, Option.some.injEq] at hx
    subst hx
    exact ⟨.refl _ _, fun m w a r fR Q hQ => wp_skip (hQ a w ⟨m, .refl _ _ _, r, fR⟩)⟩
  | region id ops dr =>
    intro fr h s hx
    cases dr with
    | false =>
      simp only [code] at hx
      split at hx
      · rename_i fr' h' hr
        cases hx
        obtain ⟨hs, hw⟩ := runOps_ok hN hcall _ hr
        exact ⟨hs, fun m w a r fR Q hQ => wp_region_list (hw m w a r fR Q hQ)⟩
      · cases hx
    | true =>
      simp only [code] at hx
      split at hx
      · rename_i fr' h' hr
        cases hx
        obtain ⟨hs, hw⟩ := hdraw _ _ _ _ _ _ hr
        exact ⟨hs, fun m w a r fR Q hQ => hw m w a id r fR Q hQ⟩
      · cases hx
  | seq x y ihx ihy =>
    intro fr h s hx
    simp only [code] at hx
    split at hx
    · rename_i fr1 h1 h2
      obtain ⟨hs1, hw1⟩ := ihx _ _ _ h2
      obtain ⟨hs2, hw2⟩ := ihy _ _ _ hx
      refine ⟨hs1.trans hs2, fun m w a r fR Q hQ => wp_seq (hw1 m w a r fR _ fun a' w' ⟨m', e, r', f'⟩ => hw2 m' w' a' r' f' Q fun a2 w2 k => hQ a2 w2 (k.trans e))⟩
    · rename_i hne
      obtain ⟨hs1, hw1⟩ := ihx _ _ _ hx
      refine ⟨hs1, fun m w a r fR Q hQ => wp_seq (hw1 m w a r fR _ fun a' w' k => ?_)⟩
      have := hQ a' w' k
      revert this
      obtain ⟨e1, f1, h1⟩ := s
      cases e1 with
      | normal => exact absurd hx (hne f1 h1)
      | exit id => exact fun x => x
      | ret => exact fun x => x
  | cond c x y ihx ihy =>
    intro fr h s hx
    simp only [code] at hx
    split at hx
    · rename_i hc
      obtain ⟨hs, hw⟩ := ihx _ _ _ hx
      refine ⟨hs, fun m w a r fR Q hQ => ?_⟩
      have hcr := ev_R fR hc
      generalize hce : a.eval c = ce at hcr
      cases hcr
      exact wp_cond_true hce (hw m w a r fR Q hQ)
    · rename_i hc
      obtain ⟨hs, hw⟩ := ihy _ _ _ hx
      refine ⟨hs, fun m w a r fR Q hQ => ?_⟩
      have hcr := ev_R fR hc
      generalize hce : a.eval c = ce at hcr
      cases hcr
      exact wp_cond_false hce (hw m w a r fR Q hQ)
    · cases hx
  | block id b ih =>
    intro fr h s hx
    simp only [code] at hx
    split at hx
    · rename_i i fr1 h1 h2
      cases hx
      obtain ⟨hs, hw⟩ := ih _ _ _ h2
      refine ⟨hs, fun m w a r fR Q hQ => wp_block (hw m w a r fR _ fun a' w' k => ?_)⟩
      have := hQ a' w' k
      simp only [exOf, Exit.inBlock]
      by_cases hi : i = id
      · rw [if_pos hi]; simpa [hi, exOf] using this
      · rw [if_neg hi]; simpa [hi, exOf] using this
    · rename_i hne
      obtain ⟨hs, hw⟩ := ih _ _ _ hx
      refine ⟨hs, fun m w a r fR Q hQ => wp_block (hw m w a r fR _ fun a' w' k => ?_)⟩
      have := hQ a' w' k
      revert this
      obtain ⟨e1, f1, h1⟩ := s
      cases e1 with
      | normal => exact fun x => x
      | exit id => exact absurd hx (hne id f1 h1)
      | ret => exact fun x => x
  | loop b ih =>
    intro fr h s hx
    simp only [code] at hx
    obtain ⟨hs, _, hw⟩ := iter_ok (c := b) (fun fr h s hb => ih fr h s hb) n fr h s hx
    exact ⟨hs, fun m w a r fR Q hQ => wp_loop_rounds n (hw m w a r fR Q hQ)⟩
  | exit id =>
    intro fr h s hx
    simp only [code, Option.some.injEq] at hx
    subst hx
    exact ⟨.refl _ _, fun m w a r fR Q hQ => wp_exit (hQ a w ⟨m, .refl _ _ _, r, fR⟩)⟩
  | ret =>
    intro fr h s hx
    simp only [code, Option.some.injEq] at hx
    subst hx
    exact ⟨.refl _ _, fun m w a r fR Q hQ => wp_ret (hQ a w ⟨m, .refl _ _ _, r, fR⟩)⟩
  | rangeFunc => intro fr h s hx; simp [code] at hx
  | scope => intro fr h s hx; simp [code] at hx
  | label => intro fr h s hx; simp [code] at hx
  | goto => intro fr h s hx; simp [code] at hx
  | refuse => intro fr h s hx; simp [code] at hx
def resOne (tmps : Array Value) : ResultVar → Sem Value
  | .tmp t => pure (tmps.getD t undef)
  | .cell b t => do loadVar t (← asAddr (tmps.getD b undef))
theorem resV_ok (r : Rel m h w) {fr : List V} {a : Act} (fR : FR m h w fr a) : ∀ (l : List ResultVar) (xs : List V), resV P fr h l = some xs →
    ∃ vs : List Value, (l.mapM (resOne a.tmps)).run P w = .ok vs w ∧ vs.length = xs.length ∧ ∀ (i : Nat) (c : V) (v : Value), xs[i]? = some c → vs[i]? = some v → R m h w c v
  | [], xs, hx => by
    simp [resV] at hx
    subst hx
    exact ⟨[], by simp, rfl, by simp⟩
  | .tmp t :: l, xs, hx => by
    simp only [resV] at hx
    split at hx
    · rename_i x hfx
      split at hx
      · rename_i ys hys
        cases hx
        obtain ⟨vs, h1, h2, h3⟩ := resV_ok r fR l ys hys
        have hr : R m h w x (a.tmps.getD t undef) := ev_R fR (o := .tmp t) hfx
        refine ⟨a.tmps.getD t undef :: vs, ?_, by simp [h2], fun i c v hc hv => ?_⟩
        · rw [List.mapM_cons]
          simp only [resOne, Sem.run_bind, Sem.run_pure, Result.andThen_ok, h1]
        · cases i with
          | zero => simp only [List.getElem?_cons_zero, Option.some.injEq] at hc hv; subst hc hv; exact hr
          | succ i => exact h3 i c v (by simpa using hc) (by simpa using hv)
      · cases hx
    · cases hx
  | .cell b t :: l, xs, hx => by
    simp only [resV] at hx
    split at hx
    · rename_i p hfp
      split at hx
      · rename_i x hlx
        split at hx
        · rename_i ys hys
          cases hx
          obtain ⟨vs, h1, h2, h3⟩ := resV_ok r fR l ys hys
          have hp : R m h w p (a.tmps.getD b undef) := ev_R fR (o := .tmp b) hfp
          obtain ⟨v, hv, hr⟩ := load_ok (P := P) r hp hlx
          have hload : (do loadVar t (← asAddr (a.tmps.getD b undef)) : Sem Value).run P w = .ok v w := by
            have : ∃ ad, a.tmps.getD b undef = .pointer (some ad) := by
              unfold loadV at hlx
              split at hlx
              · generalize a.tmps.getD b undef = q at hp; cases hp; exact ⟨_, rfl⟩
              · generalize a.tmps.getD b undef = q at hp; cases hp; exact ⟨_, rfl⟩
              · cases hlx
            obtain ⟨ad, had⟩ := this
            rw [had] at hv ⊢
            simpa [Instr.loadAt, Instr.sureAddr, asAddr] using hv
          refine ⟨v :: vs, ?_, by simp [h2], fun i c u hc hu => ?_⟩
          · rw [List.mapM_cons]
            rw [Sem.run_bind, show (resOne a.tmps (.cell b t)).run P w = .ok v w from hload]
            simp only [Sem.run_bind, Result.andThen_ok, h1, Sem.run_pure]
          · cases i with
            | zero => simp only [List.getElem?_cons_zero, Option.some.injEq] at hc hu; subst hc hu; exact hr
            | succ i => exact h3 i c u (by simpa using hc) (by simpa using hu)
        · cases hx
      · cases hx
    · cases hx
omit [Base] in
theorem leaves_marks {fn : Func} {tmps : Array Value} {R : Ending → World → Prop} {B : Nat} : ∀ (Ds : List Nat) (w : World), Ds.Nodup → (∀ D ∈ Ds, B ≤ D ∧ w.heap[D]? = some (.deferred (some []))) →
    (∀ w2 : World, (∀ b, b ∉ Ds → w2.heap[b]? = w.heap[b]?) → w2.heap.size = w.heap.size → (∀ D ∈ Ds, w2.heap[D]? = some (.deferred none)) → w2.os = w.os ∧ w2.tape = w.tape ∧ w2.output = w.output → ∃ v, (results fn tmps).run P w2 = .ok v w2 ∧ R (.returned v) w2) →
    LeavesInM Fence.wide 0 P fn tmps R (Ds.map mark) .returning w
  | [], w, _, _, hR => hR w (fun _ _ => rfl) rfl (fun _ h => by cases h) ⟨rfl, rfl, rfl⟩
  | D :: Ds, w, hn, hd, hR => by
    obtain ⟨hn1, hn2⟩ := List.nodup_cons.1 hn
    have hD := (hd D List.mem_cons_self).2
    have hlt : D < w.heap.size := (Array.getElem?_eq_some_iff.1 hD).1
    refine ⟨by simp, .inl ⟨D, _, rfl, run_takeDeferred hD, leaves_marks (B := B) Ds _ hn2 (fun E hE => ?_) fun w2 h1 h2 h3 h4 => hR w2 (fun b hb => ?_) ?_ (fun E hE => ?_) ?_⟩⟩
    · have hne : E ≠ D := fun e => hn1 (e ▸ hE)
      obtain ⟨g1, g2⟩ := hd E (List.mem_cons_of_mem _ hE)
      exact ⟨g1, (World.putObj_heap_other hne).trans g2⟩
    · have hbD : b ≠ D := fun e => hb (e ▸ List.mem_cons_self)
      rw [h1 b fun h => hb (List.mem_cons_of_mem _ h)]
      exact World.putObj_heap_other hbD
    · rw [h2]; simp [World.putObj]
    · rcases List.mem_cons.1 hE with rfl | h
      · rw [h1 E hn1]
        exact World.putObj_heap_same hlt
      · exact h3 E h
    · exact h4
omit [Base] in
theorem fn_of_code {cfg : Cfg} {f : FuncId} {fn : Func} {c : Code} {args xs fr : List V} {h h2 : Heap} {e : Ex} (hf : P.funcs[f]? = some fn) (hb : fn.body = some c) (hne : ∀ id, e ≠ .exit id)
    (hk : ∀ b : Base, @CodeOK b P cfg c (args ++ List.replicate (fn.ntmps - args.length) .no) h (e, fr, h2)) (hxs : resV P fr h2 fn.results.toList = some xs) :
    HS cfg h h2 ∧ (∃ fn, P.funcs[f]? = some fn ∧ fn.body.isNone = false) ∧ ∀ m w vs, Rel m h w → PW m h w args vs → Calls P f vs w fun e w' => ∃ v, e = .returned v ∧ Out m h w (oneOf xs) h2 v w' := by
  refine ⟨(hk ⟨0⟩).1, ⟨fn, hf, by simp [hb]⟩, fun m w vs r hp => ?_⟩
  letI : Base := ⟨w.heap.size⟩
  have hbase : (Base.n : Nat) = w.heap.size := rfl
  refine callsIn_wide.1 (callsIn_of_wp_marks (F := Fence.wide) (n := 0) hf hb trivial (wpIn_wide.2 ((hk this).2 m w _ r ?_ _ ?_)) rfl)
  · refine ⟨by simp [hp.1], fun i y v hy hv => ?_, Mks.nil (Nat.le_refl _)⟩
    by_cases hi : i < args.length
    · rw [List.getElem?_append_left hi] at hy
      rw [Array.getElem?_append_left (by rw [hp.1]; exact hi)] at hv
      exact hp.2 i y v hy hv
    · rw [List.getElem?_append_right (by omega)] at hy
      rw [Array.getElem?_append_right (by rw [hp.1]; omega)] at hv
      simp only [List.getElem?_replicate, Array.getElem?_replicate] at hy hv
      split at hy
      · split at hv
        · cases hy; cases hv; exact .no
        · cases hv
      · cases hy
  · rintro a' w' ⟨m', e', r', f'⟩
    have fin : ∀ w3 : World, Rel m' h2 w3 → FR m' h2 w3 fr { a' with defers := [] } → Evo m h w m' h2 w3 → ∃ v, (results fn a'.tmps).run P w3 = .ok v w3 ∧ ∃ u, Ending.returned v = .returned u ∧ Out m h w (oneOf xs) h2 u w3 := by
      clear f' r' e'
      intro w3 r' f' e'
      obtain ⟨us, h1, h2', h3⟩ := resV_ok (P := P) r' f' _ _ hxs
      have hrun : (results fn a'.tmps).run P w3 = .ok (if h : us.toArray.size = 1 then us.toArray[0] else .tuple us.toArray) w3 := by
        unfold results
        have : fn.results = fn.results.toList.toArray := by simp
        rw [this, List.mapM_toArray, Sem.run_bind, Sem.run_map]
        have hfun : ∀ l : List ResultVar, (l.mapM fun
            | .tmp t => pure (a'.tmps.getD t undef)
            | .cell a t => do loadVar t (← asAddr (a'.tmps.getD a undef)) : Sem (List Value)) = l.mapM (resOne a'.tmps) := fun l => by
          congr 1
        erw [hfun, h1]
        rfl
      refine ⟨_, hrun, _, rfl, m', e', r', ?_⟩
      clear hrun h1 hxs
      match xs, us, h2', h3 with
      | [x1], [u1], _, h3 => exact h3 0 x1 u1 rfl rfl
      | [], [], _, _ => exact .tup rfl (by simp)
      | x1 :: x2 :: xs, u1 :: u2 :: us, hl, h3 =>
        have hne : ¬ (u1 :: u2 :: us).toArray.size = 1 := by simp
        rw [dif_neg hne]
        exact .tup (by simpa using hl) (fun i c v hc hv => h3 i c v hc (by simpa using hv))
    obtain ⟨hb0, Ds, hnd, hde, hdm⟩ := f'.defers
    have hres : LeavesInM Fence.wide 0 P fn a'.tmps (fun e w' => ∃ v, e = .returned v ∧ Out m h w (oneOf xs) h2 v w') a'.defers .returning w' := by
      rw [hde]
      refine leaves_marks (B := w.heap.size) Ds w' hnd hdm fun w2 k1 k2 k3 k4 => ?_
      obtain ⟨r2, f2, e2⟩ : Rel m' h2 w2 ∧ FR m' h2 w2 fr { a' with defers := [] } ∧ Evo m h w m' h2 w2 := by
        have hsz : ∀ b, rsz w2 b = rsz w' b := fun b => by
          by_cases hb : b ∈ Ds
          · simp only [rsz, k3 b hb, (hdm b hb).2]
          · simp only [rsz, k1 b hb]
        have hcl : ∀ p, w2.cell? p = w'.cell? p := fun p => by
          by_cases hb : p.block ∈ Ds
          · simp only [World.cell?, k3 _ hb, (hdm _ hb).2]
          · simp only [World.cell?, k1 _ hb]
        have hR : ∀ {x : V} {v : Value}, R m' h2 w' x v → R m' h2 w2 x v := fun hx => hx.same k2 hsz hcl
        refine ⟨⟨r'.zo, fun b hb => by rw [k2]; exact r'.zl b hb, r'.inj, fun x cs b hx hm => ?_⟩, ⟨f'.len, fun i x v hx hv => hR (f'.slot i x v hx hv), Mks.nil (by rw [k2]; exact hb0)⟩, ?_⟩
        · have hbr := r'.blk x cs b hx hm
          have hnb : b ∉ Ds := fun hb => by
            rcases hbr with ⟨arr, T, e, _⟩ | ⟨_, _, _, _, _, _, e, _⟩ | ⟨_, _, _, _, e, _⟩ <;> rw [(hdm b hb).2] at e <;> cases e
          exact hbr.carry (k1 b hnb) fun _ _ _ => hR
        · have hlo : ∀ b, b < w.heap.size → b ∉ Ds := fun b hb hm => by have := (hdm b hm).1; omega
          exact ⟨e'.zeq, e'.len, e'.keep, e'.own, fun b hb hno => (k1 b (hlo b hb)).trans (e'.frame b hb hno), by rw [k2]; exact e'.size, fun b hb => by rw [hsz]; exact e'.rs b hb, k4.1.trans e'.os, k4.2.1.trans e'.tape, k4.2.2.trans e'.output⟩
      exact fin w2 r2 f2 e2
    cases e with
    | normal => exact hres
    | exit id => exact absurd rfl (hne id)
    | ret => exact hres
omit [Base] in
theorem fnEv_ok (hN : Named P) {md : FuncId → Nat} {call : Callf} (hcall : CallOK P call) {draw : Drawf} (hdraw : ∀ b : Base, @DrawOK b P draw) {cfg : Cfg} {n : Nat} {f : FuncId} {fn : Func} {args : List V} {h h' : Heap} {x : V}
    (hf : P.funcs[f]? = some fn) (hx : fnEv P md call draw n cfg fn args h = some (x, h')) :
    HS cfg h h' ∧ (∃ fn, P.funcs[f]? = some fn ∧ fn.body.isNone = false) ∧ ∀ m w vs, Rel m h w → PW m h w args vs → Calls P f vs w fun e w' => ∃ v, e = .returned v ∧ Out m h w x h' v w' := by
  unfold fnEv at hx
  split at hx
  · cases hx
  · rename_i c hb
    split at hx
    · cases hx
    · rename_i e fr h2 hne hc
      split at hx
      · rename_i xs hxs
        simp only [Option.some.injEq, Prod.mk.injEq] at hx
        obtain ⟨rfl, rfl⟩ := hx
        exact fn_of_code hf hb hne (fun b => @code_ok b P hN md call hcall draw (hdraw b) cfg n _ _ _ _ hc) hxs
      · cases hx
    · cases hx
end
end Go.Ab
namespace Go.Ab
structure Evw (m : Mu) (h : Heap) (w : World) (m' : Mu) (h' : Heap) (w' : World) : Prop where
  zeq : m'.z = m.z
  len : h.length ≤ h'.length
  keep : ∀ x, x < h.length → live h' x → live h x ∧ ∀ b, m x = some b → m' x = some b
  own : ∀ (x b : Nat), live h' x → m' x = some b → (∃ y, live h y ∧ m y = some b) ∨ w.heap.size ≤ b
  frame : ∀ b, b < w.heap.size → (∀ x, live h x → m x ≠ some b) → w'.heap[b]? = w.heap[b]?
  size : w.heap.size ≤ w'.heap.size
  rs : ∀ b, b < w.heap.size → rsz w b ≤ rsz w' b
section
variable {m m' : Mu} {h h' : Heap} {w w' : World}
theorem Imm.evw {b : Nat} (e : Evw m h w m' h' w') (hi : Imm m h w b) : Imm m' h' w' b := by
  refine ⟨Nat.lt_of_lt_of_le hi.1 e.size, by rw [e.zeq]; exact hi.2.1, fun x hl hx => ?_⟩
  rcases e.own x b hl hx with ⟨y, hy, hyb⟩ | hge
  · exact hi.2.2 y hy hyb
  · exact absurd hi.1 (Nat.not_lt.2 hge)
theorem Imm.cellw {b : Nat} (e : Evw m h w m' h' w') (hi : Imm m h w b) (o : Nat) : w'.cell? ⟨b, o, none⟩ = w.cell? ⟨b, o, none⟩ :=
  cell?_of_block (e.frame b hi.1 hi.2.2) o
theorem R.evw (e : Evw m h w m' h' w') (hown : ∀ (x b : Nat), live h x → m x = some b → b < w.heap.size) {x : V} {v : Value} (hr : R m h w x v) : R m' h' w' x v := by
  induction hr with
  | any v => exact .any v
  | no => exact .no
  | bool b => exact .bool b
  | int k n => exact .int k n
  | str s => exact .str s
  | nilp => exact .nilp
  | ptr hlt hv =>
    refine .ptr (Nat.lt_of_lt_of_le hlt e.len) fun hl => ?_
    obtain ⟨hl0, hm⟩ := e.keep _ hlt hl
    obtain ⟨b, hb, hvb⟩ := hv hl0
    exact ⟨b, hm b hb, hvb⟩
  | lptr rv hi hc hf _ ih => exact .lptr rv (hi.evw e) (fun i c hic => (hi.cellw e _).trans (hc i c hic)) hf ih
  | nils => exact .nils
  | sl hlt hcap hlen hv =>
    refine .sl (Nat.lt_of_lt_of_le hlt e.len) hcap hlen fun hl => ?_
    obtain ⟨hl0, hm⟩ := e.keep _ hlt hl
    obtain ⟨b, hb, hvb, hs⟩ := hv hl0
    exact ⟨b, hm b hb, hvb, Nat.le_trans hs (e.rs b (hown _ _ hl0 hb))⟩
  | lst0 a rc ha => exact .lst0 a rc ha
  | lst rv hi hrc hk hc hf _ ih => exact .lst rv (hi.evw e) hrc hk (fun i x j c hx hj => (hi.cellw e _).trans (hc i x j c hx hj)) hf ih
  | agg hl _ ih => exact .agg hl ih
  | tup hl _ ih => exact .tup hl ih
  | func hl _ hl' _ ih ih' => exact .func hl ih hl' ih'
  | nilf => exact .nilf
  | nili => exact .nili
  | nilm => exact .nilm
  | iface _ ih => exact .iface ih
  | mref hlt hv =>
    refine .mref (Nat.lt_of_lt_of_le hlt e.len) fun hl => ?_
    obtain ⟨hl0, hm⟩ := e.keep _ hlt hl
    exact hm _ (hv hl0)
end
section
variable {m : Mu} {g : Heap} {w : World}
def Mu.cut (m : Mu) (g : Heap) (n : Nat) : Mu := { f := fun x => if x < n then m x else none, z := fun b => m.z b ∨ ∃ x, n ≤ x ∧ live g x ∧ m x = some b }
theorem live_take' {n x : Nat} (hx : x < n) : live (g.take n) x ↔ live g x := by
  simp [live, hx]
theorem Imm.cut {n b : Nat} (hi : Imm m g w b) : Imm (m.cut g n) (g.take n) w b := by
  refine ⟨hi.1, ?_, fun x hx hxb => ?_⟩
  · rintro (h | ⟨x, _, h2, h3⟩)
    · exact hi.2.1 h
    · exact hi.2.2 x h2 h3
  · obtain ⟨h1, h2⟩ := live_take hx
    simp only [Mu.cut, h1, if_true] at hxb
    exact hi.2.2 x h2 hxb
theorem R.cut {n : Nat} (hn : n ≤ g.length) {x : V} {v : Value} (hr : R m g w x v) (hb : Bel n x) : R (m.cut g n) (g.take n) w x v := by
  have hlen : (g.take n).length = n := by simp; omega
  induction hr with
  | any v => exact .any v
  | no => exact .no
  | bool b => exact .bool b
  | int k n => exact .int k n
  | str s => exact .str s
  | nilp => exact .nilp
  | ptr hlt hv =>
    cases hb with
    | rf h => simp [V.rf] at h
    | ptr hlt' =>
      refine .ptr (by omega) fun hl => ?_
      obtain ⟨b, h1, h2⟩ := hv (live_take hl).2
      exact ⟨b, by simp [Mu.cut, hlt', h1], h2⟩
  | lptr rv hi hc hf _ ih => exact .lptr rv hi.cut hc hf fun i c hic => ih i c hic (.rf (hf i c hic))
  | nils => exact .nils
  | sl hlt hcap hlen hv =>
    cases hb with
    | rf h => simp [V.rf] at h
    | sl hlt' =>
      refine .sl (by omega) hcap hlen fun hl => ?_
      obtain ⟨b, h1, h2, h3⟩ := hv (live_take hl).2
      exact ⟨b, by simp [Mu.cut, hlt', h1], h2, h3⟩
  | lst0 a rc ha => exact .lst0 a rc ha
  | lst rv hi hrc hk hc hf _ ih => exact .lst rv hi.cut hrc hk hc hf fun i e j c he hj => ih i e j c he hj (.rf (hf i e j c he hj))
  | agg hl _ ih =>
    cases hb with
    | rf h => simp [V.rf] at h
    | agg h => exact .agg hl fun i c v hc hv => ih i c v hc hv (h c (List.mem_of_getElem? hc))
  | tup hl _ ih =>
    cases hb with
    | rf h => simp [V.rf] at h
    | tup h => exact .tup hl fun i c v hc hv => ih i c v hc hv (h c (List.mem_of_getElem? hc))
  | func hl _ hl' _ ih ih' =>
    cases hb with
    | rf h => simp [V.rf] at h
    | func h h' => exact .func hl (fun i c v hc hv => ih i c v hc hv (h c (List.mem_of_getElem? hc))) hl' (fun i c v hc hv => ih' i c v hc hv (h' c (List.mem_of_getElem? hc)))
  | nilf => exact .nilf
  | nili => exact .nili
  | nilm => exact .nilm
  | iface _ ih =>
    cases hb with
    | rf h => simp [V.rf] at h
    | iface h => exact .iface (ih h)
  | mref hlt hv =>
    cases hb with
    | rf h => simp [V.rf] at h
    | mref hlt' => exact .mref (by omega) fun hl => by simp [Mu.cut, hlt', hv (live_take hl).2]
theorem Rel.cut {n : Nat} (hn : n ≤ g.length) (r : Rel m g w) (hb : ∀ x cs b, x < n → g[x]? = some (some cs) → m x = some b → ∀ c ∈ cs, Bel n c) : Rel (m.cut g n) (g.take n) w := by
  have hm : ∀ x b, x < n → (m.cut g n) x = some b → m x = some b := fun x b hx hxb => by simpa [Mu.cut, hx] using hxb
  refine ⟨fun x b hl hxb => ?_, fun b hz => ?_, fun x y b hx hy hbx hby => ?_, fun x cs b hx hxb => ?_⟩
  · obtain ⟨h1, h2⟩ := live_take hl
    have h3 := hm x b h1 hxb
    rintro (h | ⟨y, h4, h5, h6⟩)
    · exact r.zo x b h2 h3 h
    · have := r.inj x y b h2 h5 h3 h6; omega
  · rcases hz with h | ⟨y, _, h5, h6⟩
    · exact r.zl b h
    · exact r.lt y b h5 h6
  · obtain ⟨h1, h2⟩ := live_take hx
    obtain ⟨h3, h4⟩ := live_take hy
    exact r.inj x y b h2 h4 (hm x b h1 hbx) (hm y b h3 hby)
  · obtain ⟨h1, h2⟩ := live_take ⟨cs, hx⟩
    rw [List.getElem?_take, if_pos h1] at hx
    have h3 := hm x b h1 hxb
    exact (r.blk x cs b hx h3).carry rfl fun c v hcm hrv => hrv.cut hn (hb x cs b h1 hx h3 c hcm)
def Mu.glue (m m' : Mu) (n' : Nat) : Mu := { f := fun x => if x < n' then m' x else m x, z := m.z }
section
variable {m' : Mu} {g' : Heap} {w' : World} {n n' : Nat}
theorem Imm.glue (hz : m'.z = (m.cut g n).z) (hnn : n ≤ n') (hsame : ∀ x, n' ≤ x → g'[x]? = g[x]?) {b : Nat} (hi : Imm m' (g'.take n') w' b) : Imm (m.glue m' n') g' w' b := by
  refine ⟨hi.1, fun h => hi.2.1 (by rw [hz]; exact .inl h), fun x hx hxb => ?_⟩
  by_cases hxn : x < n'
  · simp only [Mu.glue, hxn, if_true] at hxb
    exact hi.2.2 x ((live_take' hxn).2 hx) hxb
  · simp only [Mu.glue, hxn, if_false] at hxb
    obtain ⟨cs, hc⟩ := hx
    rw [hsame x (by omega)] at hc
    exact hi.2.1 (by rw [hz]; exact .inr ⟨x, by omega, ⟨cs, hc⟩, hxb⟩)
theorem R.glue (hz : m'.z = (m.cut g n).z) (hnn : n ≤ n') (hsame : ∀ x, n' ≤ x → g'[x]? = g[x]?) (hlen : n' ≤ g'.length) {x : V} {v : Value} (hr : R m' (g'.take n') w' x v) : R (m.glue m' n') g' w' x v := by
  have hl' : (g'.take n').length = n' := by simp; omega
  induction hr with
  | any v => exact .any v
  | no => exact .no
  | bool b => exact .bool b
  | int k n => exact .int k n
  | str s => exact .str s
  | nilp => exact .nilp
  | ptr hlt hv =>
    rw [hl'] at hlt
    refine .ptr (by omega) fun hl => ?_
    obtain ⟨b, h1, h2⟩ := hv ((live_take' hlt).2 hl)
    exact ⟨b, by simp [Mu.glue, hlt, h1], h2⟩
  | lptr rv hi hc hf _ ih => exact .lptr rv (hi.glue hz hnn hsame) hc hf ih
  | nils => exact .nils
  | sl hlt hcap hlen hv =>
    rw [hl'] at hlt
    refine .sl (by omega) hcap hlen fun hl => ?_
    obtain ⟨b, h1, h2, h3⟩ := hv ((live_take' hlt).2 hl)
    exact ⟨b, by simp [Mu.glue, hlt, h1], h2, h3⟩
  | lst0 a rc ha => exact .lst0 a rc ha
  | lst rv hi hrc hk hc hf _ ih => exact .lst rv (hi.glue hz hnn hsame) hrc hk hc hf ih
  | agg hl _ ih => exact .agg hl ih
  | tup hl _ ih => exact .tup hl ih
  | func hl _ hl' _ ih ih' => exact .func hl ih hl' ih'
  | nilf => exact .nilf
  | nili => exact .nili
  | nilm => exact .nilm
  | iface _ ih => exact .iface ih
  | mref hlt hv =>
    rw [hl'] at hlt
    exact .mref (by omega) fun hl => by simp [Mu.glue, hlt, hv ((live_take' hlt).2 hl)]
theorem evw_glue (_r : Rel m g w) (hn : n ≤ g.length) (hnn : n ≤ n') (hlen : g'.length = g.length) (hsame : ∀ x, n' ≤ x → g'[x]? = g[x]?) (hnew : ∀ x, n ≤ x → x < n' → live g' x → live g x ∧ m x = none)
    (e : Evo (m.cut g n) (g.take n) w m' (g'.take n') w') : Evw m g w (m.glue m' n') g' w' where
  zeq := rfl
  len := by omega
  keep := fun x hx hl => by
    by_cases hxn : x < n
    · obtain ⟨h1, h2⟩ := e.keep x (by simp; omega) ((live_take' (by omega)).2 hl)
      refine ⟨(live_take h1).2, fun b hb => ?_⟩
      simp only [Mu.glue, show x < n' by omega, if_true, h2]
      simpa [Mu.cut, hxn] using hb
    · by_cases hxn' : x < n'
      · obtain ⟨h1, h2⟩ := hnew x (by omega) hxn' hl
        exact ⟨h1, fun b hb => by rw [h2] at hb; cases hb⟩
      · obtain ⟨cs, hc⟩ := hl
        rw [hsame x (by omega)] at hc
        exact ⟨⟨cs, hc⟩, fun b hb => by simp [Mu.glue, hxn', hb]⟩
  own := fun x b hl hb => by
    by_cases hxn' : x < n'
    · simp only [Mu.glue, hxn', if_true] at hb
      rcases e.own x b ((live_take' hxn').2 hl) hb with ⟨y, hy, hyb⟩ | hge
      · obtain ⟨h1, h2⟩ := live_take hy
        exact .inl ⟨y, h2, by simpa [Mu.cut, h1] using hyb⟩
      · exact .inr hge
    · simp only [Mu.glue, hxn', if_false] at hb
      obtain ⟨cs, hc⟩ := hl
      rw [hsame x (by omega)] at hc
      exact .inl ⟨x, ⟨cs, hc⟩, hb⟩
  frame := fun b hb hn => e.frame b hb fun x hx hxb => by
    obtain ⟨h1, h2⟩ := live_take hx
    exact hn x h2 (by simpa [Mu.cut, h1] using hxb)
  size := e.size
  rs := e.rs
theorem rel_glue (r : Rel m g w) (hn : n ≤ g.length) (hnn : n ≤ n') (hlen : g'.length = g.length) (hn' : n' ≤ g.length) (hsame : ∀ x, n' ≤ x → g'[x]? = g[x]?) (hnew : ∀ x, n ≤ x → x < n' → live g' x → live g x ∧ m x = none)
    (e : Evo (m.cut g n) (g.take n) w m' (g'.take n') w') (r' : Rel m' (g'.take n') w') : Rel (m.glue m' n') g' w' := by
  have ew := evw_glue r hn hnn hlen hsame hnew e
  have hz := e.zeq
  have hlow : ∀ x b, x < n' → live g' x → (m.glue m' n') x = some b → live (g'.take n') x ∧ m' x = some b := fun x b hx hl hb => ⟨(live_take' hx).2 hl, by simpa [Mu.glue, hx] using hb⟩
  have hhigh : ∀ x b, ¬ x < n' → live g' x → (m.glue m' n') x = some b → live g x ∧ m x = some b := fun x b hx hl hb => by
    obtain ⟨cs, hc⟩ := hl
    rw [hsame x (by omega)] at hc
    exact ⟨⟨cs, hc⟩, by simpa [Mu.glue, hx] using hb⟩
  have hmix : ∀ x y b, x < n' → ¬ y < n' → live g' x → live g' y → (m.glue m' n') x = some b → (m.glue m' n') y = some b → False := by
    intro x y b hx hy hlx hly hbx hby
    obtain ⟨h1, h2⟩ := hlow x b hx hlx hbx
    obtain ⟨h3, h4⟩ := hhigh y b hy hly hby
    exact r'.zo x b h1 h2 (by rw [hz]; exact .inr ⟨y, by omega, h3, h4⟩)
  refine ⟨fun x b hl hb => ?_, fun b hb => Nat.lt_of_lt_of_le (r.zl b hb) e.size, fun x y b hx hy hbx hby => ?_, fun x cs b hx hb => ?_⟩
  · by_cases hxn : x < n'
    · obtain ⟨h1, h2⟩ := hlow x b hxn hl hb
      exact fun h => r'.zo x b h1 h2 (by rw [hz]; exact .inl h)
    · obtain ⟨h1, h2⟩ := hhigh x b hxn hl hb
      exact r.zo x b h1 h2
  · by_cases hxn : x < n'
    · by_cases hyn : y < n'
      · obtain ⟨h1, h2⟩ := hlow x b hxn hx hbx
        obtain ⟨h3, h4⟩ := hlow y b hyn hy hby
        exact r'.inj x y b h1 h3 h2 h4
      · exact (hmix x y b hxn hyn hx hy hbx hby).elim
    · by_cases hyn : y < n'
      · exact (hmix y x b hyn hxn hy hx hby hbx).elim
      · obtain ⟨h1, h2⟩ := hhigh x b hxn hx hbx
        obtain ⟨h3, h4⟩ := hhigh y b hyn hy hby
        exact r.inj x y b h1 h3 h2 h4
  · by_cases hxn : x < n'
    · obtain ⟨h1, h2⟩ := hlow x b hxn ⟨cs, hx⟩ hb
      exact (r'.blk x cs b (by rw [List.getElem?_take, if_pos hxn]; exact hx) h2).carry rfl fun c v _ hrv => hrv.glue hz hnn hsame (by omega)
    · obtain ⟨h1, h2⟩ := hhigh x b hxn ⟨cs, hx⟩ hb
      rw [hsame x (by omega)] at hx
      refine (r.blk x cs b hx h2).carry (e.frame b (r.lt x b h1 h2) (fun y hy hyb => ?_)) fun c v _ hrv => hrv.evw ew r.lt
      obtain ⟨h3, h4⟩ := live_take hy
      have := r.inj x y b h1 h4 h2 (by simpa [Mu.cut, h3] using hyb)
      omega
end
end
end Go.Ab
namespace Go.Ab
section
variable {P : Program}
theorem evAll_congr {fr fr' : List V} : ∀ {l : List Operand}, (∀ o ∈ l, ev fr o = ev fr' o) → evAll fr l = evAll fr' l
  | [], _ => rfl
  | o :: l, h => by
    simp only [evAll, h o List.mem_cons_self, evAll_congr fun x hx => h x (List.mem_cons_of_mem _ hx)]
theorem evParts_congr {fr fr' : List V} : ∀ {l : List (Nat × Operand)}, (∀ o ∈ l, ev fr o.2 = ev fr' o.2) → evParts fr l = evParts fr' l
  | [], _ => rfl
  | (i, o) :: l, h => by
    simp only [evParts, h (i, o) List.mem_cons_self, evParts_congr fun x hx => h x (List.mem_cons_of_mem _ hx)]
theorem partsInOrder_congr {fr fr' : List V} : ∀ {l : List (Nat × Operand)} {i : Nat}, (∀ o ∈ l, ev fr o.2 = ev fr' o.2) → partsInOrder fr i l = partsInOrder fr' i l
  | [], _, _ => rfl
  | (i, o) :: l, j, h => by
    simp only [partsInOrder, h (i, o) List.mem_cons_self, partsInOrder_congr fun x hx => h x (List.mem_cons_of_mem _ hx)]
theorem opEv_congr {md : FuncId → Nat} {call : Callf} {cfg : Cfg} {fr fr' : List V} {h : Heap} {op : Op} (hc : ∀ o ∈ op.operands.toList, ev fr o = ev fr' o) : opEv P md call cfg fr h op = opEv P md call cfg fr' h op := by
  cases op
  case call c =>
    obtain ⟨callee, args, tys⟩ := c
    have hargs : evAll fr args.toList = evAll fr' args.toList := evAll_congr fun o ho => hc o (by simp [Op.operands, Call.operands] at ho ⊢; exact .inr ho)
    cases callee with
    | value f =>
      have hf : ev fr f = ev fr' f := hc f (by simp [Op.operands, Call.operands])
      simp only [opEv, hf, hargs]
    | invoke r n => simp only [opEv, opV]
    | builtin b => simp only [opEv, opV, hargs]
  case build t ps =>
    have hp : evParts fr ps.toList = evParts fr' ps.toList := evParts_congr fun o ho => hc o.2 (by simp [Op.operands] at ho ⊢; exact ⟨o.1, ho⟩)
    simp only [opEv, opV, hp]
  case buildSlice t n ps =>
    have hp : partsInOrder fr 0 ps.toList = partsInOrder fr' 0 ps.toList := partsInOrder_congr fun o ho => hc o.2 (by simp [Op.operands] at ho ⊢; exact ⟨o.1, ho⟩)
    simp only [opEv, opV, hp]
  case makeFunc fn f c =>
    have h1 : evAll fr f.toList = evAll fr' f.toList := evAll_congr fun o ho => hc o (by simp [Op.operands] at ho ⊢; exact .inl ho)
    have h2 : evAll fr c.toList = evAll fr' c.toList := evAll_congr fun o ho => hc o (by simp [Op.operands] at ho ⊢; exact .inr ho)
    simp only [opEv, opV, h1, h2]
  case slice t x l hh mx =>
    have h1 : ev fr x = ev fr' x := hc x (by simp [Op.operands])
    have h2 : l.map (ev fr) = l.map (ev fr') := by
      cases l with
      | none => rfl
      | some o => simp [hc o (by simp [Op.operands])]
    have h3 : hh.map (ev fr) = hh.map (ev fr') := by
      cases hh with
      | none => rfl
      | some o => simp [hc o (by simp [Op.operands])]
    cases mx with
    | none => simp only [opEv, opV, h1, h2, h3]
    | some o => simp only [opEv, opV]
  case makeMap t r =>
    cases r with
    | none => simp only [opEv, opV]
    | some o => simp only [opEv, opV]
  all_goals
    simp only [Op.operands, List.mem_cons, List.not_mem_nil, or_false, forall_eq_or_imp, forall_eq] at hc
    try simp only [opEv, opV, hc]
def headOp (P : Program) : Op → Bool
  | .move _ | .assign _ | .pick .. | .build .. | .nilCheck _ | .binOp .. | .unOp .. | .makeFunc .. | .fieldAddr .. | .field .. | .indexAddr .. | .index .. | .extract .. => true
  | .load .. | .slice .. | .alloc _ | .box .. | .buildSlice .. | .makeSlice .. => true
  | .makeMap _ none => true
  | .call { callee := .builtin b, .. } => match b with
    | .len | .min | .max => true
    | _ => false
  | .convert _ d _ => match P.underlying d with
    | some (.int _) => true
    | _ => false
  | _ => false
def readsOf (fr : List V) : Op → Option Nat
  | .load _ a => match ev fr a with
    | some (.ptr b _) => some b
    | _ => none
  | .slice _ x _ _ _ => match ev fr x with
    | some (.ptr b _) => some b
    | _ => none
  | _ => none
theorem blockOf_set {h : Heap} {x y : Nat} {o : Option (List V)} (hne : y ≠ x) : blockOf (h.set x o) y = blockOf h y := by
  simp [blockOf, List.getElem?_set_ne (fun e => hne e.symm)]
theorem loadV_set {h : Heap} {x : Nat} {o : Option (List V)} {t : TypeId} {p : V} (hne : ∀ b off, p = .ptr b off → b ≠ x) : loadV P (h.set x o) t p = loadV P h t p := by
  cases p <;> simp only [loadV]
  rename_i b off
  rw [blockOf_set (hne b off rfl)]
theorem sliceV_set {h : Heap} {x : Nat} {o : Option (List V)} {t : TypeId} {p : V} {lo hi : Option (Option V)} (hne : ∀ b off, p = .ptr b off → b ≠ x) : sliceV P (h.set x o) t p lo hi = sliceV P h t p lo hi := by
  unfold sliceV
  split <;> try rfl
  rename_i n elem b off hu
  rw [blockOf_set (hne b off rfl)]
theorem set_push {h : Heap} {x : Nat} {o n : Option (List V)} (hx : x < h.length) : (h ++ [n]).set x o = h.set x o ++ [n] := by
  rw [List.set_append_left _ _ hx]
theorem opV_set {cfg : Cfg} {fr : List V} {h h' : Heap} {op : Op} {v : V} {x : Nat} (o : Option (List V)) (hop : headOp P op = true) (hr : readsOf fr op ≠ some x) (hx : x < h.length) (hv : opV P cfg fr h op = some (v, h')) :
    opV P cfg fr (h.set x o) op = some (v, h'.set x o) := by
  have key : ∀ {e : Option V}, e.map (·, h) = some (v, h') → e.map (·, h.set x o) = some (v, h'.set x o) := by
    intro e he
    obtain ⟨h1, rfl⟩ := map_pair he
    simp [h1]
  cases op <;> simp only [headOp, Bool.false_eq_true] at hop
  case move y => exact key hv
  case assign y => exact key hv
  case pick c a b =>
    simp only [opV] at hv ⊢
    split at hv
    · rename_i hc; (try simp only [hc]); exact key hv
    · rename_i hc; (try simp only [hc]); exact key hv
    · cases hv
  case alloc t =>
    simp only [opV] at hv ⊢
    split at hv
    · rename_i z hz; cases hv; simp [set_push hx]
    · cases hv
  case box t y =>
    simp only [opV] at hv ⊢
    split at hv
    · rename_i z hz
      split at hv
      · rename_i cs hcs; cases hv; simp [set_push hx]
      · cases hv
    · cases hv
  case build t ps =>
    simp only [opV] at hv ⊢
    split at hv
    · rename_i vs hvs; (try simp only [hvs]); exact key hv
    · cases hv
  case buildSlice t n ps =>
    simp only [opV] at hv ⊢
    split at hv
    · rename_i vs hvs
      try simp only [hvs]
      unfold buildSliceV at hv ⊢
      split at hv
      · rename_i e hu
        try simp only [hu]
        split at hv
        · rename_i s hs
          try simp only [hs]
          split at hv
          · rename_i cs hcs
            try simp only [hcs]
            split at hv
            · rename_i hc
              cases hv
              rw [if_pos hc]
              simp [set_push hx]
            · cases hv
          · cases hv
        · cases hv
      · cases hv
    · cases hv
  case load t a =>
    simp only [opV] at hv ⊢
    split at hv
    · rename_i p hp
      try simp only [hp]
      rw [loadV_set (fun b off hpb => by intro e; subst e; subst hpb; exact hr (by simp [readsOf, hp]))]
      exact key hv
    · cases hv
  case nilCheck y =>
    simp only [opV] at hv ⊢
    split at hv
    · rename_i p hp; (try simp only [hp]); exact key hv
    · cases hv
  case binOp b t y z u =>
    simp only [opV] at hv ⊢
    split at hv
    · rename_i p q hp hq; (try simp only [hp, hq]); exact key hv
    · cases hv
  case unOp b t y =>
    simp only [opV] at hv ⊢
    split at hv
    · rename_i p hp; (try simp only [hp]); exact key hv
    · cases hv
  case convert s d y =>
    simp only [opV] at hv ⊢
    split at hv
    · rename_i p hp
      try simp only [hp]
      split at hop
      · rename_i k hd
        unfold convV at hv ⊢
        rw [hd] at hv ⊢
        split at hv
        · rename_i h1 h2; cases h2
        · rename_i k' sd h1 h2
          cases h2
          split at hv
          · cases hv; simp_all
          · cases hv
        · rename_i h1 h2; cases h2
        · rename_i h1 h2; cases h2
        · cases hv
      · cases hop
    · cases hv
  case makeFunc fn f c =>
    simp only [opV] at hv ⊢
    split at hv
    · rename_i p q hp hq; cases hv; simp
    · cases hv
  case makeSlice t l c =>
    simp only [opV] at hv ⊢
    split at hv
    · rename_i p q hp hq
      try simp only [hp, hq]
      unfold makeSliceV at hv ⊢
      split at hv
      · rename_i e n m hu
        try simp only [hu]
        split at hv
        · rename_i s y z hs hy hz
          try simp only [hs, hy, hz]
          split at hv
          · rename_i hc
            cases hv
            rw [if_pos hc]
            simp [set_push hx]
          · cases hv
        · cases hv
      · cases hv
    · cases hv
  case makeMap t r =>
    cases r with
    | some o => simp [headOp] at hop
    | none =>
      simp only [opV] at hv ⊢
      unfold makeMapV at hv ⊢
      split at hv
      · rename_i k e hk
        cases hv
        simp [hk, set_push hx]
      · rename_i hk
        split at hv
        · rename_i z hz
          cases hv
          simp [hk, hz, set_push hx]
        · rename_i hz
          split at hv
          · rename_i z hz2
            cases hv
            simp [hk, hz, hz2, set_push hx]
          · cases hv
  case slice t y l hh mx =>
    cases mx with
    | none =>
      simp only [opV] at hv ⊢
      split at hv
      · rename_i p hp
        try simp only [hp]
        rw [sliceV_set (fun b off hpb => by intro e; subst e; subst hpb; exact hr (by simp [readsOf, hp]))]
        exact key hv
      · cases hv
    | some o => simp [opV] at hv
  case fieldAddr s y f =>
    simp only [opV] at hv ⊢
    split at hv
    · rename_i p hp; (try simp only [hp]); exact key hv
    · cases hv
  case field s y f =>
    simp only [opV] at hv ⊢
    split at hv
    · rename_i p hp; (try simp only [hp]); exact key hv
    · cases hv
  case indexAddr s y f =>
    simp only [opV] at hv ⊢
    split at hv
    · rename_i p q hp hq; (try simp only [hp, hq]); exact key hv
    · cases hv
  case index s y f =>
    simp only [opV] at hv ⊢
    split at hv
    · rename_i p q hp hq; (try simp only [hp, hq]); exact key hv
    · cases hv
  case extract y i =>
    simp only [opV] at hv ⊢
    split at hv
    · rename_i p hp; (try simp only [hp]); exact key hv
    · cases hv
  case call c =>
    obtain ⟨callee, args, tys⟩ := c
    cases callee with
    | value f => simp at hop
    | invoke r n => simp at hop
    | builtin b =>
      simp only [opV] at hv ⊢
      split at hv
      · cases hv
      · rename_i vs hvs
        try simp only [hvs]
        split at hv
        · exact key hv
        · simp at hop
        · exact key hv
        · exact key hv
        · simp at hop
        · cases hv
end
end Go.Ab
namespace Go.Ab
section
variable {P : Program} {ops : Array Oper} {Q : Exit → Act → World → Prop}
def Ready (S : Nat → Bool) (o : Oper) : Prop := ∀ e ∈ o.after.toList, Region.binds .any e = true → S e.on = true
def Closed (ops : Array Oper) (S : Nat → Bool) : Prop := ∀ i o, ops[i]? = some o → S i = true → Ready S o
def addTo (S : Nat → Bool) (i : Nat) : Nat → Bool := fun j => if j = i then true else S j
theorem Ready.add {S : Nat → Bool} {o : Oper} {i : Nat} (h : Ready S o) : Ready (addTo S i) o := fun e he hb => by
  unfold addTo
  split
  · rfl
  · exact h e he hb
theorem Closed.add {S : Nat → Bool} {i : Nat} {o : Oper} (hi : ops[i]? = some o) (hr : Ready S o) (h : Closed ops S) : Closed ops (addTo S i) := fun j oj hj hSj => by
  by_cases hji : j = i
  · subst hji
    rw [hi] at hj; cases hj
    exact hr.add
  · simp only [addTo, hji, if_false] at hSj
    exact (h j oj hj hSj).add
def Back (ops : Array Oper) : Prop := ∀ i o, ops[i]? = some o → ∀ e ∈ o.after.toList, Region.binds .any e = true → e.on < i
def setOf (listed : Array Bool) : Nat → Bool := fun i => listed.getD i false
theorem setOf_set {listed : Array Bool} {i : Nat} (hi : i < listed.size) : setOf (listed.setIfInBounds i true) = addTo (setOf listed) i := by
  funext j
  unfold setOf addTo
  by_cases hji : j = i
  · subst hji; simp [hi]
  · have : i ≠ j := fun e => hji e.symm
    simp [hji, Array.getD_eq_getD_getElem?, Array.getElem?_setIfInBounds_ne this]
theorem mem_ready {listed : Array Bool} {i : Nat} (hs : listed.size = ops.size) : i ∈ Region.ready .any ops listed ↔ ∃ o, ops[i]? = some o ∧ setOf listed i = false ∧ Ready (setOf listed) o := by
  unfold Region.ready Ready setOf
  simp only [List.mem_filter, List.mem_range, Bool.and_eq_true, Bool.not_eq_true']
  constructor
  · rintro ⟨hi, hl, ha⟩
    have ho : ops[i]? = some ops[i] := Array.getElem?_eq_getElem hi
    have hil : i < listed.size := by omega
    refine ⟨ops[i], ho, by simpa [Array.getD_eq_getD_getElem?, hil] using hl, ?_⟩
    rw [ho] at ha
    simp only [Option.map_some, Option.getD_some, Array.all_eq_true] at ha
    intro e he hb
    obtain ⟨k, hk, rfl⟩ := List.getElem_of_mem he
    have := ha k (by simpa using hk)
    simp only [Bool.or_eq_true, Bool.not_eq_true'] at this
    rcases this with h | h
    · simp only [Array.getElem_toList] at hb; rw [hb] at h; cases h
    · simpa using h
  · rintro ⟨o, ho, hl, ha⟩
    have hi : i < ops.size := (Array.getElem?_eq_some_iff.1 ho).1
    have hil : i < listed.size := by omega
    refine ⟨hi, by simpa [Array.getD_eq_getD_getElem?, hil] using hl, ?_⟩
    rw [ho]
    simp only [Option.map_some, Option.getD_some, Array.all_eq_true]
    intro k hk
    simp only [Bool.or_eq_true, Bool.not_eq_true']
    by_cases hb : Region.binds .any o.after[k] = true
    · exact .inr (ha o.after[k] (by simp) hb)
    · exact .inl (by simpa using hb)
def countF (listed : Array Bool) : Nat := listed.toList.count false
theorem countF_set {listed : Array Bool} {i : Nat} (hi : i < listed.size) (hf : setOf listed i = false) : countF (listed.setIfInBounds i true) + 1 = countF listed := by
  unfold countF
  have h1 : listed[i] = false := by simpa [setOf, Array.getD_eq_getD_getElem?, hi] using hf
  have hi' : i < listed.toList.length := by simpa using hi
  have h2 : listed.toList[i] = false := by simpa using h1
  rw [Array.toList_setIfInBounds, List.count_set hi', h2, if_pos (by decide : (false == false) = true), if_neg (by decide : ¬ (true == false) = true)]
  have hpos : 0 < listed.toList.count false := List.count_pos_iff.2 (by rw [← h1]; simp)
  omega
theorem countF_zero {listed : Array Bool} (h0 : countF listed = 0) {i : Nat} (hi : i < listed.size) : setOf listed i = true := by
  unfold countF at h0
  rw [List.count_eq_zero] at h0
  have : listed[i] ≠ false := fun e => h0 (by rw [← e]; simp)
  simpa [setOf, Array.getD_eq_getD_getElem?, hi] using this
theorem all_of_ready_nil (hback : Back ops) {listed : Array Bool} (hs : listed.size = ops.size) (hr : Region.ready .any ops listed = []) : ∀ i, i < ops.size → setOf listed i = true := by
  intro i
  induction i using Nat.strongRecOn with
  | _ i ih =>
    intro hi
    by_cases hl : setOf listed i = true
    · exact hl
    · have ho : ops[i]? = some ops[i] := Array.getElem?_eq_getElem hi
      have : i ∈ Region.ready .any ops listed := (mem_ready hs).2 ⟨ops[i], ho, by simpa using hl, fun e he hb => by
        have hlt := hback i _ ho e he hb
        exact ih e.on hlt (by omega)⟩
      rw [hr] at this
      cases this
theorem wpAny_of_inv (hback : Back ops) (J : (Nat → Bool) → Act → World → Prop)
    (hstep : ∀ S a w, J S a w → Closed ops S → ∀ i o, ops[i]? = some o → S i = false → Ready S o → wpOp P ops Q i (J (addTo S i)) a w)
    (hend : ∀ S a w, J S a w → (∀ i, i < ops.size → S i = true) → Q .normal a w) : ∀ (fuel : Nat) (listed : Array Bool) (a : Act) (w : World), listed.size = ops.size → countF listed = fuel → Closed ops (setOf listed) → J (setOf listed) a w →
    wpAny P .any ops Q fuel listed a w
  | 0, listed, a, w, hs, hc, _, hj => by
    have hall : ∀ i, i < ops.size → setOf listed i = true := fun i hi => countF_zero hc (by omega)
    refine ⟨?_, hend _ a w hj hall⟩
    apply List.eq_nil_iff_forall_not_mem.2
    intro i hi
    obtain ⟨o, ho, hf, _⟩ := (mem_ready hs).1 hi
    rw [hall i (Array.getElem?_eq_some_iff.1 ho).1] at hf
    cases hf
  | fuel + 1, listed, a, w, hs, hc, hcl, hj => by
    refine ⟨fun hr => hend _ a w hj (all_of_ready_nil hback hs hr), fun i hi => ?_⟩
    obtain ⟨o, ho, hf, hready⟩ := (mem_ready hs).1 hi
    have hil : i < listed.size := by rw [hs]; exact (Array.getElem?_eq_some_iff.1 ho).1
    refine wpOp_mono (fun a' w' hj' => ?_) (hstep _ a w hj hcl i o ho hf hready)
    have hset := setOf_set hil
    refine wpAny_of_inv hback J hstep hend fuel _ a' w' (by simp [hs]) ?_ ?_ (by rw [hset]; exact hj')
    · have := countF_set hil hf; omega
    · rw [hset]; exact hcl.add ho hready
theorem region_of_inv (hm : P.follows .mixedOrders = true) (hback : Back ops) (J : (Nat → Bool) → Act → World → Prop)
    (hstep : ∀ S a w, J S a w → Closed ops S → ∀ i o, ops[i]? = some o → S i = false → Ready S o → wpOp P ops Q i (J (addTo S i)) a w)
    (hend : ∀ S a w, J S a w → (∀ i, i < ops.size → S i = true) → Q .normal a w) {id : Nat} {a : Act} {w : World} (h0 : J (fun _ => false) a { w with drawn := w.drawn + 1 }) : (Code.region id ops true).wp P Q a w := by
  have hset : setOf (Array.replicate ops.size false) = fun _ => false := by
    funext i; simp [setOf, Array.getD_eq_getD_getElem?, Array.getElem?_replicate]
    split <;> rfl
  refine wp_region_any hm (wpAny_of_inv hback J hstep hend ops.size _ a _ (by simp) ?_ ?_ ?_)
  · simp [countF]
  · rw [hset]; intro i o _ h; cases h
  · rw [hset]; exact h0
/-! ### What comes before what, by bits -/
def befMask (acc : List Nat) (o : Oper) : Nat := o.after.toList.foldl (fun s e => if Region.binds .any e then s ||| 2 ^ e.on ||| acc.getD e.on 0 else s) 0
def befs : List Nat → List Oper → List Nat
  | acc, [] => acc
  | acc, o :: r => befs (acc ++ [befMask acc o]) r
theorem befs_spec : ∀ (l : List Oper) (acc : List Nat), (∀ j, j < acc.length → (befs acc l)[j]? = acc[j]?) ∧ ∀ j o, l[j]? = some o → (befs acc l)[acc.length + j]? = some (befMask ((befs acc l).take (acc.length + j)) o)
  | [], acc => ⟨fun _ _ => rfl, fun j o h => by simp at h⟩
  | o :: r, acc => by
    obtain ⟨h1, h2⟩ := befs_spec r (acc ++ [befMask acc o])
    refine ⟨fun j hj => ?_, fun j oj hj => ?_⟩
    · simp only [befs]
      rw [h1 j (by simp; omega), List.getElem?_append_left hj]
    · cases j with
      | zero =>
        simp only [List.getElem?_cons_zero, Option.some.injEq] at hj
        subst hj
        simp only [befs, Nat.add_zero]
        rw [h1 acc.length (by simp)]
        simp only [List.getElem?_concat_length, Option.some.injEq]
        congr 1
        apply List.ext_getElem?
        intro q
        rw [List.getElem?_take]
        split
        · rename_i hq
          rw [h1 q (by simp; omega), List.getElem?_append_left hq]
        · rename_i hq
          rw [List.getElem?_eq_none (by omega)]
      | succ j =>
        have := h2 j oj (by simpa using hj)
        simp only [List.length_append, List.length_singleton] at this
        simp only [befs]
        rw [show acc.length + (j + 1) = acc.length + 1 + j by omega]
        exact this
theorem testBit_fold (acc : List Nat) (i : Nat) : ∀ (es : List Edge) (s : Nat), (es.foldl (fun s e => if Region.binds .any e then s ||| 2 ^ e.on ||| acc.getD e.on 0 else s) s).testBit i = true →
    s.testBit i = true ∨ ∃ e ∈ es, Region.binds .any e = true ∧ (i = e.on ∨ (acc.getD e.on 0).testBit i = true)
  | [], s, h => .inl h
  | e :: es, s, h => by
    rw [List.foldl_cons] at h
    rcases testBit_fold acc i es _ h with h | ⟨e', he', hb, h⟩
    · split at h
      · rename_i hb
        simp only [Nat.testBit_or, Bool.or_eq_true, Nat.testBit_two_pow, decide_eq_true_eq] at h
        rcases h with (h | h) | h
        · exact .inl h
        · exact .inr ⟨e, List.mem_cons_self, hb, .inl h.symm⟩
        · exact .inr ⟨e, List.mem_cons_self, hb, .inr h⟩
      · exact .inl h
    · exact .inr ⟨e', List.mem_cons_of_mem _ he', hb, h⟩
def ord (ops : Array Oper) (i j : Nat) : Bool := ((befs [] ops.toList).getD j 0).testBit i
theorem ord_listed (hback : Back ops) {S : Nat → Bool} (hcl : Closed ops S) {i : Nat} : ∀ (j : Nat) (o : Oper), ops[j]? = some o → Ready S o → ord ops i j = true → S i = true := by
  intro j
  induction j using Nat.strongRecOn with
  | _ j ih =>
    intro o ho hr hord
    unfold ord at hord
    have hm := (befs_spec ops.toList []).2 j o (by simpa using ho)
    simp only [List.length_nil, Nat.zero_add] at hm
    rw [List.getD_eq_getElem?_getD, hm, Option.getD_some, befMask] at hord
    rcases testBit_fold _ i _ 0 hord with h | ⟨e, he, hb, h⟩
    · simp at h
    · have hlt := hback j o ho e he hb
      have hS := hr e he hb
      rcases h with rfl | h
      · exact hS
      · have hjs : j < ops.size := (Array.getElem?_eq_some_iff.1 ho).1
        have hoe : ops[e.on]? = some ops[e.on] := Array.getElem?_eq_getElem (by omega)
        refine ih e.on hlt _ hoe (hcl e.on _ hoe hS) ?_
        unfold ord
        rw [List.getD_eq_getElem?_getD] at h ⊢
        rw [List.getElem?_take, if_pos hlt] at h
        exact h
end
end Go.Ab
