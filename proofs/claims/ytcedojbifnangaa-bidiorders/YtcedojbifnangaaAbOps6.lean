/- Operations that make memory or write it. -/
import Derived.Test.YtcedojbifnangaaAbHeap
namespace Go.Ab

section
variable {P : Program} {m : Mu} {h : Heap} {w : World}

/-- What an operation leaves. -/
def Out (m : Mu) (h : Heap) (w : World) (x : V) (h' : Heap) (v : Value) (w' : World) : Prop := ∃ m', Evo m h w m' h' w' ∧ Rel m' h' w' ∧ R m' h' w' x v

theorem Out.same (r : Rel m h w) {x : V} {v : Value} (hr : R m h w x v) : Out m h w x h v w := ⟨m, .refl _ _ _, r, hr⟩

theorem PW.at {cs : List V} {arr : Array Value} (hp : PW m h w cs arr) : cs.length ≤ arr.size ∧ ∀ (i : Nat) (c : V), cs[i]? = some c → ∃ v, arr[i]? = some v ∧ R m h w c v := by
  refine ⟨by rw [hp.1]; exact Nat.le_refl _, fun i c hc => ?_⟩
  have hlt : i < arr.size := by rw [hp.1]; exact (List.getElem?_eq_some_iff.1 hc).1
  exact ⟨arr[i], Array.getElem?_eq_getElem hlt, hp.2 i c _ hc (Array.getElem?_eq_getElem hlt)⟩

theorem newVar_ok (r : Rel m h w) {cs : List V} {t : TypeId} {v : Value} (hp : PW m h w cs v.cells) :
    (newVar t v).run P w = .ok ⟨w.heap.size, 0, none⟩ (w.alloc (.cells v.cells t)) ∧ Out m h w (.ptr h.length 0) (h ++ [some cs]) (.pointer (some ⟨w.heap.size, 0, none⟩)) (w.alloc (.cells v.cells t)) := by
  refine ⟨by simp [newVar, newRow], upd m h.length w.heap.size, evo_alloc _ _, rel_alloc r hp.at.1 hp.at.2, new_ptr⟩

theorem alloc_ok (r : Rel m h w) {t : TypeId} {z : V} (hz : zeroOf P t = some z) :
    ∃ v w', (Instr.alloc t true (.tuple #[])).run P w = .ok v w' ∧ Out m h w (.ptr h.length 0) (h ++ [some (vcells z)]) v w' := by
  obtain ⟨zv, hzr, hzo, _⟩ := run_zeroValue' hz w
  obtain ⟨h1, h2⟩ := newVar_ok (P := P) (t := t) r (zero_PW (m := m) (h := h) (w := w) hzo)
  exact ⟨_, _, by simp only [Instr.alloc, Sem.run_bind, hzr, Result.andThen_ok, h1]; rfl, h2⟩

theorem box_ok (r : Rel m h w) {t : TypeId} {x : V} {xv : Value} {cs : List V} (hx : R m h w x xv) (hc : cellsOf x = some cs) :
    ∃ v w', (Instr.box t xv).run P w = .ok v w' ∧ Out m h w (.ptr h.length 0) (h ++ [some cs]) v w' := by
  obtain ⟨h1, h2⟩ := newVar_ok (P := P) (t := t) r (cellsOf_R hc hx).1
  exact ⟨_, _, by simp only [Instr.box, Sem.run_bind, h1, Result.andThen_ok]; rfl, h2⟩

theorem store_ok (r : Rel m h w) {cfg : Cfg} {t : TypeId} {p x : V} {pv xv : Value} {h' : Heap} (hp : R m h w p pv) (hx : R m h w x xv) (hs : storeV P cfg h t p x = some h') :
    ∃ w', (Instr.storeAt t pv xv).run P w = .ok () w' ∧ Evo m h w m h' w' ∧ Rel m h' w' := by
  unfold storeV at hs
  split at hs
  · rename_i y off s vs hsz hc
    split at hs
    · rename_i hl
      obtain ⟨hpw, h1⟩ := cellsOf_R hc hx
      have hb : ∃ cs, blockOf h y = some cs := by
        unfold storeCellsV at hs
        split at hs
        · rename_i cs hb; exact ⟨cs, hb⟩
        · cases hs
      obtain ⟨cs, hb⟩ := hb
      obtain ⟨b, arr, T, hmb, rfl, ha, hle, _⟩ := hp.ptr_at r hb
      obtain ⟨w', hrun, e, r'⟩ := storeCells_ok (P := P) r hmb hb hs (us := xv.cells.toList) (by simpa using hpw.1) (fun i c u hc hu => hpw.2 i c u hc (by simpa using hu)) h1
      refine ⟨w', ?_, e, r'⟩
      have hne : ¬ xv.cells.size ≠ s := by rw [hpw.1]; omega
      simp only [Instr.storeAt, Instr.sureAddr, Sem.run_bind, Sem.run_pure, Result.andThen_ok, storeVar, run_sizeOf' hsz, hne, if_false, hrun]
    · cases hs
  · cases hs

theorem PW.append {cs ds : List V} {xs ys : List Value} (h1 : PW m h w cs xs.toArray) (h2 : PW m h w ds ys.toArray) : PW m h w (cs ++ ds) (xs ++ ys).toArray := by
  have e1 : xs.length = cs.length := by simpa using h1.1
  have e2 : ys.length = ds.length := by simpa using h2.1
  refine ⟨by simp [e1, e2], fun i c v hc hv => ?_⟩
  simp only [List.getElem?_toArray] at hv
  by_cases hi : i < cs.length
  · rw [List.getElem?_append_left hi] at hc
    rw [List.getElem?_append_left (by omega)] at hv
    exact h1.2 i c v hc (by simpa using hv)
  · rw [List.getElem?_append_right (by omega)] at hc
    rw [List.getElem?_append_right (by omega), e1] at hv
    exact h2.2 _ c v hc (by simpa using hv)

theorem cellsAll_R {s : Nat} : ∀ {vs : List V} {us : List Value} {cs : List V}, vs.length = us.length → (∀ (i : Nat) (c : V) (u : Value), vs[i]? = some c → us[i]? = some u → R m h w c u) → cellsAll s vs = some cs →
    PW m h w cs (us.flatMap fun u => u.cells.toList).toArray ∧ (∀ u ∈ us, u.cells.size = s) ∧ cs.length = vs.length * s
  | [], [], cs, _, _, hc => by simp [cellsAll] at hc; subst hc; exact ⟨⟨rfl, by simp⟩, by simp, by simp⟩
  | v :: vs, u :: us, cs, hl, hr, hc => by
    simp only [cellsAll] at hc
    split at hc
    · rename_i c1 hc1
      split at hc
      · rename_i hs
        split at hc
        · rename_i rest hrest
          cases hc
          obtain ⟨hp1, _⟩ := cellsOf_R hc1 (hr 0 v u rfl rfl)
          obtain ⟨hp2, hsz, hlen⟩ := cellsAll_R (by simpa using hl) (fun i c x hi hx => hr (i + 1) c x (by simpa using hi) (by simpa using hx)) hrest
          refine ⟨?_, ?_, ?_⟩
          · rw [List.flatMap_cons]
            exact PW.append (by simpa using hp1) hp2
          · intro x hx
            rcases List.mem_cons.1 hx with rfl | hx
            · rw [hp1.1, hs]
            · exact hsz x hx
          · simp [hlen, hs, Nat.add_mul, Nat.add_comm]
        · cases hc
      · cases hc
    · cases hc
  | [], _ :: _, _, hl, _, _ => by simp at hl
  | _ :: _, [], _, hl, _, _ => by simp at hl

theorem partsInOrder_R {fr : List V} {a : Act} (f : FR m h w fr a) : ∀ {ps : List (Nat × Operand)} {i0 : Nat} {xs : List V}, partsInOrder fr i0 ps = some xs →
    ps.map (fun (i, x) => (i, a.eval x)) = ((ps.map fun p => a.eval p.2).zipIdx i0).map (fun x => (x.2, x.1)) ∧ xs.length = (ps.map fun p => a.eval p.2).length ∧
    ∀ (i : Nat) (c : V) (u : Value), xs[i]? = some c → (ps.map fun p => a.eval p.2)[i]? = some u → R m h w c u
  | [], i0, xs, hx => by simp [partsInOrder] at hx; subst hx; simp
  | (j, x) :: ps, i0, xs, hx => by
    simp only [partsInOrder] at hx
    split at hx
    · rename_i hij
      subst hij
      split at hx
      · rename_i v hv
        split at hx
        · rename_i vs hvs
          cases hx
          obtain ⟨h1, h2, h3⟩ := partsInOrder_R f hvs
          refine ⟨by simp [List.zipIdx_cons, h1], by simpa using h2, fun i c u hc hu => ?_⟩
          cases i with
          | zero => simp at hc hu; subst hc hu; exact ev_R f hv
          | succ i => exact h3 i c u (by simpa using hc) (by simpa using hu)
        · cases hx
      · cases hx
    · cases hx

theorem new_sl {cs : List V} {w' : World} {len k rc : Nat} (hlen : len ≤ rc) (hsz : rc * k ≤ rsz w' w.heap.size) (cap : Nat) (hcap : cap ≤ rc) :
    R (upd m h.length w.heap.size) (h ++ [some cs]) w' (.sl h.length 0 len cap k) (.slice (some ⟨w.heap.size, 0, none⟩) len rc) :=
  .sl (by simp) hcap hlen fun _ => ⟨w.heap.size, by simp [upd], rfl, by omega⟩

theorem rsz_new {arr : Array Value} {T : TypeId} {fz : Nat × Nat} : rsz (w.alloc (.cells arr T fz)) w.heap.size = arr.size := by simp only [rsz, pushed_new]

theorem flatMap_length {s : Nat} : ∀ {us : List Value}, (∀ u ∈ us, u.cells.size = s) → (us.flatMap fun u => u.cells.toList).length = us.length * s
  | [], _ => by simp
  | u :: us, hu => by
    have := flatMap_length (us := us) fun x hx => hu x (List.mem_cons_of_mem _ hx)
    simp [List.flatMap_cons, this, hu u List.mem_cons_self, Nat.add_mul, Nat.add_comm]

theorem buildSlice_ok (r : Rel m h w) {fr : List V} {a : Act} (f : FR m h w fr a) {t : TypeId} {len : Nat} {ps : Array (Nat × Operand)} {xs : List V} {y : V} {h' : Heap}
    (hp : partsInOrder fr 0 ps.toList = some xs) (hy : buildSliceV P h t len xs = some (y, h')) :
    ∃ v w', (Instr.buildSlice t len (ps.map fun (i, x) => (i, a.eval x))).run P w = .ok v w' ∧ Out m h w y h' v w' := by
  obtain ⟨hp1, hp2, hp3⟩ := partsInOrder_R f hp
  generalize hus : (ps.toList.map fun p => a.eval p.2) = us at *
  obtain ⟨qs, hqs⟩ : ∃ qs : Array (Nat × Value), qs = ps.map fun (i, x) => (i, a.eval x) := ⟨_, rfl⟩
  have hqt : qs.toList = (us.zipIdx 0).map fun x => (x.2, x.1) := by rw [hqs, Array.toList_map]; exact hp1
  rw [← hqs]
  unfold buildSliceV at hy
  split at hy
  · rename_i elem hu
    split at hy
    · rename_i s hs
      split at hy
      · rename_i cs hcs
        split at hy
        · rename_i hc
          simp only [Bool.and_eq_true, decide_eq_true_eq, Option.isSome_iff_exists] at hc
          obtain ⟨⟨⟨hl, hs0⟩, h24⟩, z, hz⟩ := hc
          cases hy
          obtain ⟨hpw, hsz, hcl⟩ := cellsAll_R hp2 hp3 hcs
          obtain ⟨zv, hzr, hzo, _⟩ := run_zeroValue' hz w
          have hlen : us.length = len := by omega
          have hfl := flatMap_length hsz
          -- the cells
          have key : ∀ cells : Array Value, cells.size = len * s → Instr.fill (fun i => some (i * s, s)) cells qs.toList = some (us.flatMap fun u => u.cells.toList).toArray := by
            intro cells hcz
            obtain ⟨r1, hr1, hr2, hr3⟩ := Great.fill_dense hs0 us 0 cells hsz (by rw [hcz]; simp [hlen])
            rw [hqt, hr1]
            congr 1
            apply Array.ext_getElem?
            intro k
            have hg : (us.flatMap fun u => u.cells.toList).toArray[k]? = (us[k / s]?).bind fun v => v.cells[k % s]? := by rw [← Great.flat_get hs0 us hsz k]; simp
            rw [hg, hr3 k]
            by_cases hk : k < us.length * s
            · rw [if_pos (by simp; exact hk)]; simp
            · rw [if_neg (by simp; omega)]
              rw [Array.getElem?_eq_none (by rw [hcz, ← hlen]; omega)]
              have : us.length ≤ k / s := (Nat.le_div_iff_mul_le hs0).2 (by omega)
              rw [List.getElem?_eq_none this]; rfl
          have h24' : ¬ len * s > 2 ^ 24 := by omega
          refine ⟨.slice (some ⟨w.heap.size, 0, none⟩) len len, w.alloc (.cells (us.flatMap fun u => u.cells.toList).toArray elem), ?_, ?_⟩
          · obtain ⟨i, hi, his⟩ := szOf_info hs
            subst his
            by_cases h0 : len * i.size = 0
            · have hk := key ((Array.range (len * i.size)).map ((#[] : Array Value)[· % (#[] : Array Value).size]!)) (by simp)
              rw [h0] at hk
              simp only [Instr.buildSlice, Sem.run_bind, run_underlying hu, Result.andThen_ok, run_sizeOf' hs, h0, if_true, Sem.run_pure]
              rw [if_neg (by decide)]
              simp only [Sem.run_bind, Sem.run_pure, Result.andThen_ok, hk]
              simp [newRow]
            · have hk := key ((Array.range (len * i.size)).map (zv.cells[· % zv.cells.size]!)) (by simp)
              simp only [Instr.buildSlice, Sem.run_bind, run_underlying hu, Result.andThen_ok, run_sizeOf' hs]
              rw [if_neg h24']
              simp only [Sem.run_bind, if_neg h0, hzr, Sem.run_pure, Result.andThen_ok, hk]
              simp [newRow]
          · exact ⟨_, evo_alloc _ _, rel_alloc r hpw.at.1 hpw.at.2, new_sl (Nat.le_refl _) (by rw [rsz_new]; simp [hfl, hlen]) _ (Nat.le_refl _)⟩
        · cases hy
      · cases hy
    · cases hy
  · cases hy
end
end Go.Ab
