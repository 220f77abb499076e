/- Several texts of this proof in one. -/
import Derived.Test.YtoappddifbgegaaGreatAbOps5
import Derived.Laws.BytesString
import Derived.IntWalk
import Derived.MapKept
set_option linter.all false
namespace Go.Ab
section
variable {P : Program} {m : Mu} {h : Heap} {w : World}
def upd (m : Mu) (x b : Nat) : Mu := { m with f := fun y => if y = x then some b else m y }
theorem live_append {h : Heap} {o : Option (List V)} {x : Nat} (hlt : x < h.length) : live (h ++ [o]) x ↔ live h x := by
  simp [live, List.getElem?_append_left hlt]
theorem live_append_new {h : Heap} {o : Option (List V)} {x : Nat} (hl : live (h ++ [o]) x) : x < h.length ∨ x = h.length := by
  have := live_lt hl
  simp at this
  omega
theorem pushed_old {o : Obj} {b : Nat} (hb : b < w.heap.size) : (w.alloc o).heap[b]? = w.heap[b]? := heap_alloc_old w o b hb
theorem pushed_new {o : Obj} : (w.alloc o).heap[w.heap.size]? = some o := heap_alloc_new w o
theorem evo_alloc (cs : List V) (o : Obj) : Evo m h w (upd m h.length w.heap.size) (h ++ [some cs]) (w.alloc o) where
  zeq := rfl
  len := by simp
  keep := fun x hx hl => ⟨(live_append hx).1 hl, by simp [upd, Nat.ne_of_lt hx]⟩
  own := fun x b hl hb => by
    rcases live_append_new hl with hx | rfl
    · refine .inl ⟨x, (live_append hx).1 hl, ?_⟩
      simpa [upd, Nat.ne_of_lt hx] using hb
    · simp [upd] at hb; exact .inr (by omega)
  frame := fun b hb _ => pushed_old hb
  size := by simp
  rs := fun b hb => by rw [rsz_of_block (pushed_old hb)]; exact Nat.le_refl _
  os := rfl
  tape := rfl
  output := rfl
theorem rel_alloc (r : Rel m h w) {cs : List V} {arr : Array Value} {T : TypeId} (hl : cs.length ≤ arr.size) (hr : ∀ (i : Nat) (c : V), cs[i]? = some c → ∃ v, arr[i]? = some v ∧ R m h w c v) :
    Rel (upd m h.length w.heap.size) (h ++ [some cs]) (w.alloc (.cells arr T (0, 0))) := by
  have e := evo_alloc (m := m) (h := h) (w := w) cs (.cells arr T (0, 0))
  refine ⟨fun x b hl hb hz => ?_, fun b hb => Nat.lt_of_lt_of_le (r.zl b hb) e.size, fun x y b hx hy hbx hby => ?_, fun x cs' b hx hb => ?_⟩
  · rcases live_append_new hl with h1 | rfl
    · simp only [upd, Nat.ne_of_lt h1, if_false] at hb
      exact r.zo x b ((live_append h1).1 hl) hb hz
    · simp only [upd, if_true, Option.some.injEq] at hb
      have := r.zl b hz
      omega
  · rcases live_append_new hx with h1 | rfl
    · rcases live_append_new hy with h2 | rfl
      · simp only [upd, Nat.ne_of_lt h1, Nat.ne_of_lt h2, if_false] at hbx hby
        exact r.inj x y b ((live_append h1).1 hx) ((live_append h2).1 hy) hbx hby
      · simp only [upd, Nat.ne_of_lt h1, if_false, if_true, Option.some.injEq] at hbx hby
        have := r.lt x b ((live_append h1).1 hx) hbx
        omega
    · rcases live_append_new hy with h2 | rfl
      · simp only [upd, Nat.ne_of_lt h2, if_false, if_true, Option.some.injEq] at hbx hby
        have := r.lt y b ((live_append h2).1 hy) hby
        omega
      · rfl
  · rcases live_append_new ⟨cs', hx⟩ with h1 | rfl
    · rw [List.getElem?_append_left h1] at hx
      simp only [upd, Nat.ne_of_lt h1, if_false] at hb
      exact (r.blk x cs' b hx hb).carry (pushed_old (r.lt x b ⟨cs', hx⟩ hb)) fun c v _ hrv => hrv.evo e r.lt
    · simp only [upd, if_true, Option.some.injEq] at hb
      subst hb
      simp at hx
      subst hx
      refine .inl ⟨arr, T, pushed_new, hl, fun i c hc => ?_⟩
      obtain ⟨v, hv, hrv⟩ := hr i c hc
      exact ⟨v, hv, hrv.evo e r.lt⟩
theorem new_ptr {cs : List V} {w' : World} : R (upd m h.length w.heap.size) (h ++ [some cs]) w' (.ptr h.length 0) (.pointer (some ⟨w.heap.size, 0, none⟩)) :=
  .ptr (by simp) fun _ => ⟨w.heap.size, by simp [upd], rfl⟩
theorem live_set {h : Heap} {x y : Nat} {cs : List V} (hx : live h x) : live (h.set x (some cs)) y ↔ live h y := by
  by_cases hxy : x = y
  · subst hxy
    exact ⟨fun _ => hx, fun _ => ⟨cs, by simp [List.getElem?_set_self (live_lt hx)]⟩⟩
  · simp [live, List.getElem?_set_ne hxy]
theorem evo_set {x b : Nat} {cs : List V} (hx : live h x) (hb : m x = some b) {arr arr' : Array Value} {T : TypeId} (ha : w.heap[b]? = some (.cells arr T (0, 0))) (hsz : arr.size ≤ arr'.size) :
    Evo m h w m (h.set x (some cs)) (w.setRow b arr') where
  zeq := rfl
  len := by simp
  keep := fun y _ hl => ⟨(live_set hx).1 hl, rfl⟩
  own := fun y c hl hc => .inl ⟨y, (live_set hx).1 hl, hc⟩
  frame := fun c _ hn => setRow_other w b c arr' fun hcb => hn x hx (hcb ▸ hb)
  size := by simp
  rs := fun c _ => by
    by_cases hcb : c = b
    · subst hcb; simp only [rsz, ha, setRow_heap w c arr arr' T (0, 0) ha]; exact hsz
    · rw [rsz_of_block (setRow_other w b c arr' hcb)]; exact Nat.le_refl _
  os := rfl
  tape := rfl
  output := rfl
theorem rel_set (r : Rel m h w) {x b : Nat} {cs : List V} (hx : live h x) (hb : m x = some b) {arr arr' : Array Value} {T : TypeId} (ha : w.heap[b]? = some (.cells arr T (0, 0))) (hsz : arr.size ≤ arr'.size)
    (hl : cs.length ≤ arr'.size) (hr : ∀ (i : Nat) (c : V), cs[i]? = some c → ∃ v, arr'[i]? = some v ∧ R m h w c v) : Rel m (h.set x (some cs)) (w.setRow b arr') := by
  have e := evo_set (cs := cs) hx hb ha hsz
  refine ⟨fun y c hy hc => r.zo y c ((live_set hx).1 hy) hc, fun c hc => Nat.lt_of_lt_of_le (r.zl c hc) e.size, fun y z c hy hz hcy hcz => r.inj y z c ((live_set hx).1 hy) ((live_set hx).1 hz) hcy hcz, fun y cs' c hy hc => ?_⟩
  by_cases hxy : x = y
  · subst hxy
    rw [List.getElem?_set_self (live_lt hx)] at hy
    cases hy
    rw [hb] at hc
    cases hc
    refine .inl ⟨arr', T, setRow_heap w b arr arr' T (0, 0) ha, hl, fun i c hc => ?_⟩
    obtain ⟨v, hv, hrv⟩ := hr i c hc
    exact ⟨v, hv, hrv.evo e r.lt⟩
  · rw [List.getElem?_set_ne hxy] at hy
    have hcb : c ≠ b := fun e => hxy (r.inj x y b hx ⟨cs', hy⟩ hb (e ▸ hc))
    exact (r.blk y cs' c hy hc).carry (setRow_other w b c arr' hcb) fun d v _ hrv => hrv.evo e r.lt
theorem storeCells_ok (r : Rel m h w) {cfg : Cfg} {x off b : Nat} {vs : List V} {us : List Value} {h' : Heap} {cs : List V} (hb : m x = some b) (hcs : blockOf h x = some cs)
    (hs : storeCellsV cfg h x off vs = some h') (hlen : us.length = vs.length) (hr : ∀ (i : Nat) (c : V) (u : Value), vs[i]? = some c → us[i]? = some u → R m h w c u) (h1 : ∀ u ∈ us, u.oneCell' = true) :
    ∃ w', (storeCells ⟨b, off, none⟩ us).run P w = .ok () w' ∧ Evo m h w m h' w' ∧ Rel m h' w' := by
  unfold storeCellsV at hs
  rw [hcs] at hs
  simp only at hs
  split at hs
  · rename_i hc
    simp only [Bool.and_eq_true, decide_eq_true_eq] at hc
    obtain ⟨⟨hle, _⟩, _⟩ := hc
    cases hs
    have hc := live_of_blockOf hcs
    obtain ⟨arr, T, ha, hl, hra⟩ := (r.blk x cs b hc hb).cells (notMap_of_blockOf hcs)
    have hst := run_storeCells_at P b off T us 0 arr w ha (by omega) h1
    simp only [Nat.add_zero] at hst
    have hsz : arr.size ≤ (arr.toList.take off ++ us ++ arr.toList.drop (off + us.length)).toArray.size := by simp; omega
    refine ⟨_, hst, evo_set ⟨cs, hc⟩ hb ha hsz, rel_set r ⟨cs, hc⟩ hb ha hsz (by rw [putAt_length]; exact Nat.le_trans hl hsz) ?_⟩
    intro i c hi
    rw [putAt_get cs off vs i hle] at hi
    have hget : (arr.toList.take off ++ us ++ arr.toList.drop (off + us.length)).toArray[i]? = if off ≤ i ∧ i < off + us.length then us[i - off]? else arr[i]? := by
      simp only [List.getElem?_toArray]
      have htl : (arr.toList.take off).length = off := by simp; omega
      by_cases hio : i < off
      · rw [List.append_assoc, List.getElem?_append_left (by omega), if_neg (by omega)]
        simp [hio]
      · by_cases hiu : i < off + us.length
        · rw [if_pos (by omega), List.append_assoc, List.getElem?_append_right (by omega), htl, List.getElem?_append_left (by omega)]
        · rw [if_neg (by omega), List.getElem?_append_right (by simp; omega), List.getElem?_drop]
          simp only [List.length_append, htl]
          rw [show off + us.length + (i - (off + us.length)) = i by omega]
          simp
    rw [hget]
    by_cases hin : off ≤ i ∧ i < off + vs.length
    · rw [if_pos hin] at hi
      rw [if_pos (by omega)]
      have hlt : i - off < us.length := by omega
      exact ⟨us[i - off], List.getElem?_eq_getElem hlt, hr _ c _ hi (List.getElem?_eq_getElem hlt)⟩
    · rw [if_neg hin] at hi
      rw [if_neg (by omega)]
      exact hra i c hi
  · cases hs
end
end Go.Ab
namespace Go.Ab
variable [Base]
section
variable {P : Program} {m : Mu} {h : Heap} {w : World}
def Out (m : Mu) (h : Heap) (w : World) (x : V) (h' : Heap) (v : Value) (w' : World) : Prop := ∃ m', Evo m h w m' h' w' ∧ Rel m' h' w' ∧ R m' h' w' x v
theorem Out.same (r : Rel m h w) {x : V} {v : Value} (hr : R m h w x v) : Out m h w x h v w := ⟨m, .refl _ _ _, r, hr⟩
theorem PW.at {cs : List V} {arr : Array Value} (hp : PW m h w cs arr) : cs.length ≤ arr.size ∧ ∀ (i : Nat) (c : V), cs[i]? = some c → ∃ v, arr[i]? = some v ∧ R m h w c v := by
  refine ⟨by rw [hp.1]; exact Nat.le_refl _, fun i c hc => ?_⟩
  have hlt : i < arr.size := by rw [hp.1]; exact (List.getElem?_eq_some_iff.1 hc).1
  exact ⟨arr[i], Array.getElem?_eq_getElem hlt, hp.2 i c _ hc (Array.getElem?_eq_getElem hlt)⟩
theorem newVar_ok (r : Rel m h w) {cs : List V} {t : TypeId} {v : Value} (hp : PW m h w cs v.cells) :
    (newVar t v).run P w = .ok ⟨w.heap.size, 0, none⟩ (w.alloc (.cells v.cells t)) ∧ Out m h w (.ptr h.length 0) (h ++ [some cs]) (.pointer (some ⟨w.heap.size, 0, none⟩)) (w.alloc (.cells v.cells t)) := by
  refine ⟨by simp [newVar, newRow], upd m h.length w.heap.size, evo_alloc _ _, rel_alloc r hp.at.1 hp.at.2, new_ptr⟩
theorem alloc_ok (r : Rel m h w) {t : TypeId} {z : V} (hz : zeroOf P t = some z) :
    ∃ v w', (Instr.alloc t true (.tuple #[])).run P w = .ok v w' ∧ Out m h w (.ptr h.length 0) (h ++ [some (vcells z)]) v w' := by
  obtain ⟨zv, hzr, hzo, _⟩ := run_zeroValue' hz w
  obtain ⟨h1, h2⟩ := newVar_ok (P := P) (t := t) r (zero_PW (m := m) (h := h) (w := w) hzo)
  exact ⟨_, _, by simp only [Instr.alloc, Sem.run_bind, hzr, Result.andThen_ok, h1]; rfl, h2⟩
theorem box_ok (r : Rel m h w) {t : TypeId} {x : V} {xv : Value} {cs : List V} (hx : R m h w x xv) (hc : cellsOf x = some cs) :
    ∃ v w', (Instr.box t xv).run P w = .ok v w' ∧ Out m h w (.ptr h.length 0) (h ++ [some cs]) v w' := by
  obtain ⟨h1, h2⟩ := newVar_ok (P := P) (t := t) r (cellsOf_R hc hx).1
  exact ⟨_, _, by simp only [Instr.box, Sem.run_bind, h1, Result.andThen_ok]; rfl, h2⟩
theorem store_ok (r : Rel m h w) {cfg : Cfg} {t : TypeId} {p x : V} {pv xv : Value} {h' : Heap} (hp : R m h w p pv) (hx : R m h w x xv) (hs : storeV P cfg h t p x = some h') :
    ∃ w', (Instr.storeAt t pv xv).run P w = .ok () w' ∧ Evo m h w m h' w' ∧ Rel m h' w' := by
  unfold storeV at hs
  split at hs
  · rename_i y off s vs hsz hc
    split at hs
    · rename_i hl
      obtain ⟨hpw, h1⟩ := cellsOf_R hc hx
      have hb : ∃ cs, blockOf h y = some cs := by
        unfold storeCellsV at hs
        split at hs
        · rename_i cs hb; exact ⟨cs, hb⟩
        · cases hs
      obtain ⟨cs, hb⟩ := hb
      obtain ⟨b, arr, T, hmb, rfl, ha, hle, _⟩ := hp.ptr_at r hb
      obtain ⟨w', hrun, e, r'⟩ := storeCells_ok (P := P) r hmb hb hs (us := xv.cells.toList) (by simpa using hpw.1) (fun i c u hc hu => hpw.2 i c u hc (by simpa using hu)) h1
      refine ⟨w', ?_, e, r'⟩
      have hne : ¬ xv.cells.size ≠ s := by rw [hpw.1]; omega
      simp only [Instr.storeAt, Instr.sureAddr, Sem.run_bind, Sem.run_pure, Result.andThen_ok, storeVar, run_sizeOf' hsz, hne, if_false, hrun]
    · cases hs
  · cases hs
theorem PW.append {cs ds : List V} {xs ys : List Value} (h1 : PW m h w cs xs.toArray) (h2 : PW m h w ds ys.toArray) : PW m h w (cs ++ ds) (xs ++ ys).toArray := by
  have e1 : xs.length = cs.length := by simpa using h1.1
  have e2 : ys.length = ds.length := by simpa using h2.1
  refine ⟨by simp [e1, e2], fun i c v hc hv => ?_⟩
  simp only [List.getElem?_toArray] at hv
  by_cases hi : i < cs.length
  · rw [List.getElem?_append_left hi] at hc
    rw [List.getElem?_append_left (by omega)] at hv
    exact h1.2 i c v hc (by simpa using hv)
  · rw [List.getElem?_append_right (by omega)] at hc
    rw [List.getElem?_append_right (by omega), e1] at hv
    exact h2.2 _ c v hc (by simpa using hv)
theorem cellsAll_R {s : Nat} : ∀ {vs : List V} {us : List Value} {cs : List V}, vs.length = us.length → (∀ (i : Nat) (c : V) (u : Value), vs[i]? = some c → us[i]? = some u → R m h w c u) → cellsAll s vs = some cs →
    PW m h w cs (us.flatMap fun u => u.cells.toList).toArray ∧ (∀ u ∈ us, u.cells.size = s) ∧ cs.length = vs.length * s
  | [], [], cs, _, _, hc => by simp [cellsAll] at hc; subst hc; exact ⟨⟨rfl, by simp⟩, by simp, by simp⟩
  | v :: vs, u :: us, cs, hl, hr, hc => by
    simp only [cellsAll] at hc
    split at hc
    · rename_i c1 hc1
      split at hc
      · rename_i hs
        split at hc
        · rename_i rest hrest
          cases hc
          obtain ⟨hp1, _⟩ := cellsOf_R hc1 (hr 0 v u rfl rfl)
          obtain ⟨hp2, hsz, hlen⟩ := cellsAll_R (by simpa using hl) (fun i c x hi hx => hr (i + 1) c x (by simpa using hi) (by simpa using hx)) hrest
          refine ⟨?_, ?_, ?_⟩
          · rw [List.flatMap_cons]
            exact PW.append (by simpa using hp1) hp2
          · intro x hx
            rcases List.mem_cons.1 hx with rfl | hx
            · rw [hp1.1, hs]
            · exact hsz x hx
          · simp [hlen, hs, Nat.add_mul, Nat.add_comm]
        · cases hc
      · cases hc
    · cases hc
  | [], _ :: _, _, hl, _, _ => by simp at hl
  | _ :: _, [], _, hl, _, _ => by simp at hl
theorem partsInOrder_R {fr : List V} {a : Act} (f : FR m h w fr a) : ∀ {ps : List (Nat × Operand)} {i0 : Nat} {xs : List V}, partsInOrder fr i0 ps = some xs →
    ps.map (fun (i, x) => (i, a.eval x)) = ((ps.map fun p => a.eval p.2).zipIdx i0).map (fun x => (x.2, x.1)) ∧ xs.length = (ps.map fun p => a.eval p.2).length ∧
    ∀ (i : Nat) (c : V) (u : Value), xs[i]? = some c → (ps.map fun p => a.eval p.2)[i]? = some u → R m h w c u
  | [], i0, xs, hx => by simp [partsInOrder] at hx; subst hx; simp
  | (j, x) :: ps, i0, xs, hx => by
    simp only [partsInOrder] at hx
    split at hx
    · rename_i hij
      subst hij
      split at hx
      · rename_i v hv
        split at hx
        · rename_i vs hvs
          cases hx
          obtain ⟨h1, h2, h3⟩ := partsInOrder_R f hvs
          refine ⟨by simp [List.zipIdx_cons, h1], by simpa using h2, fun i c u hc hu => ?_⟩
          cases i with
          | zero => simp at hc hu; subst hc hu; exact ev_R f hv
          | succ i => exact h3 i c u (by simpa using hc) (by simpa using hu)
        · cases hx
      · cases hx
    · cases hx
theorem new_sl {cs : List V} {w' : World} {len k rc : Nat} (hlen : len ≤ rc) (hsz : rc * k ≤ rsz w' w.heap.size) (cap : Nat) (hcap : cap ≤ rc) :
    R (upd m h.length w.heap.size) (h ++ [some cs]) w' (.sl h.length 0 len cap k) (.slice (some ⟨w.heap.size, 0, none⟩) len rc) :=
  .sl (by simp) hcap hlen fun _ => ⟨w.heap.size, by simp [upd], rfl, by omega⟩
theorem rsz_new {arr : Array Value} {T : TypeId} {fz : Nat × Nat} : rsz (w.alloc (.cells arr T fz)) w.heap.size = arr.size := by simp only [rsz, pushed_new]
theorem flatMap_length {s : Nat} : ∀ {us : List Value}, (∀ u ∈ us, u.cells.size = s) → (us.flatMap fun u => u.cells.toList).length = us.length * s
  | [], _ => by simp
  | u :: us, hu => by
    have := flatMap_length (us := us) fun x hx => hu x (List.mem_cons_of_mem _ hx)
    simp [List.flatMap_cons, this, hu u List.mem_cons_self, Nat.add_mul, Nat.add_comm]
theorem buildSlice_ok (r : Rel m h w) {fr : List V} {a : Act} (f : FR m h w fr a) {t : TypeId} {len : Nat} {ps : Array (Nat × Operand)} {xs : List V} {y : V} {h' : Heap}
    (hp : partsInOrder fr 0 ps.toList = some xs) (hy : buildSliceV P h t len xs = some (y, h')) :
    ∃ v w', (Instr.buildSlice t len (ps.map fun (i, x) => (i, a.eval x))).run P w = .ok v w' ∧ Out m h w y h' v w' := by
  obtain ⟨hp1, hp2, hp3⟩ := partsInOrder_R f hp
  generalize hus : (ps.toList.map fun p => a.eval p.2) = us at *
  obtain ⟨qs, hqs⟩ : ∃ qs : Array (Nat × Value), qs = ps.map fun (i, x) => (i, a.eval x) := ⟨_, rfl⟩
  have hqt : qs.toList = (us.zipIdx 0).map fun x => (x.2, x.1) := by rw [hqs, Array.toList_map]; exact hp1
  rw [← hqs]
  unfold buildSliceV at hy
  split at hy
  · rename_i elem hu
    split at hy
    · rename_i s hs
      split at hy
      · rename_i cs hcs
        split at hy
        · rename_i hc
          simp only [Bool.and_eq_true, decide_eq_true_eq, Option.isSome_iff_exists] at hc
          obtain ⟨⟨⟨hl, hs0⟩, h24⟩, z, hz⟩ := hc
          cases hy
          obtain ⟨hpw, hsz, hcl⟩ := cellsAll_R hp2 hp3 hcs
          obtain ⟨zv, hzr, hzo, _⟩ := run_zeroValue' hz w
          have hlen : us.length = len := by omega
          have hfl := flatMap_length hsz
          -- the cells
          have key : ∀ cells : Array Value, cells.size = len * s → Instr.fill (fun i => some (i * s, s)) cells qs.toList = some (us.flatMap fun u => u.cells.toList).toArray := by
            intro cells hcz
            obtain ⟨r1, hr1, hr2, hr3⟩ := Great.fill_dense hs0 us 0 cells hsz (by rw [hcz]; simp [hlen])
            rw [hqt, hr1]
            congr 1
            apply Array.ext_getElem?
            intro k
            have hg : (us.flatMap fun u => u.cells.toList).toArray[k]? = (us[k / s]?).bind fun v => v.cells[k % s]? := by rw [← Great.flat_get hs0 us hsz k]; simp
            rw [hg, hr3 k]
            by_cases hk : k < us.length * s
            · rw [if_pos (by simp; exact hk)]; simp
            · rw [if_neg (by simp; omega)]
              rw [Array.getElem?_eq_none (by rw [hcz, ← hlen]; omega)]
              have : us.length ≤ k / s := (Nat.le_div_iff_mul_le hs0).2 (by omega)
              rw [List.getElem?_eq_none this]; rfl
          have h24' : ¬ len * s > 2 ^ 24 := by omega
          refine ⟨.slice (some ⟨w.heap.size, 0, none⟩) len len, w.alloc (.cells (us.flatMap fun u => u.cells.toList).toArray elem), ?_, ?_⟩
          · obtain ⟨i, hi, his⟩ := szOf_info hs
            subst his
            by_cases h0 : len * i.size = 0
            · have hk := key ((Array.range (len * i.size)).map ((#[] : Array Value)[· % (#[] : Array Value).size]!)) (by simp)
              rw [h0] at hk
              simp only [Instr.buildSlice, Sem.run_bind, run_underlying hu, Result.andThen_ok, run_sizeOf' hs, h0, if_true]
              rw [if_neg (by decide)]
              simp only [Sem.run_bind, Sem.run_pure, Result.andThen_ok, hk]
              simp [newRow]
            · have hk := key ((Array.range (len * i.size)).map (zv.cells[· % zv.cells.size]!)) (by simp)
              simp only [Instr.buildSlice, Sem.run_bind, run_underlying hu, Result.andThen_ok, run_sizeOf' hs]
              rw [if_neg h24']
              simp only [Sem.run_bind, if_neg h0, hzr, Sem.run_pure, Result.andThen_ok, hk]
              simp [newRow]
          · exact ⟨_, evo_alloc _ _, rel_alloc r hpw.at.1 hpw.at.2, new_sl (Nat.le_refl _) (by rw [rsz_new]; simp [hfl, hlen]) _ (Nat.le_refl _)⟩
        · cases hy
      · cases hy
    · cases hy
  · cases hy
end
end Go.Ab
namespace Go.Ab
section
variable {P : Program} {m : Mu} {h : Heap} {w : World}
theorem evo_heap {w' : World} (hh : w'.heap = w.heap) (ho : w'.os = w.os) (ht : w'.tape = w.tape) (hu : w'.output = w.output) : Evo m h w m h w' where
  zeq := rfl
  len := Nat.le_refl _
  keep := fun _ _ hl => ⟨hl, rfl⟩
  own := fun x _ hl hb => .inl ⟨x, hl, hb⟩
  frame := fun _ _ _ => by rw [hh]
  size := by rw [hh]; exact Nat.le_refl _
  rs := fun b _ => by rw [rsz_of_block (w := w) (w' := w') (b := b) (by rw [hh])]; exact Nat.le_refl _
  os := ho
  tape := ht
  output := hu
theorem rel_heap (r : Rel m h w) {w' : World} (hh : w'.heap = w.heap) (ho : w'.os = w.os) (ht : w'.tape = w.tape) (hu : w'.output = w.output) : Rel m h w' :=
  ⟨r.zo, fun b hb => by rw [hh]; exact r.zl b hb, r.inj, fun x cs b hx hb => by
    exact (r.blk x cs b hx hb).carry (by rw [hh]) fun c v _ hrv => hrv.evo (evo_heap hh ho ht hu) r.lt⟩
theorem cell?_heap {w w' : World} (hh : w'.heap = w.heap) (a : Addr) : w'.cell? a = w.cell? a := by simp [World.cell?, hh]
theorem Pt.values {b o : Nat} {cs : List V} (hp : Pt m h w b o cs) : ∃ vs : List Value, vs.length = cs.length ∧ (∀ (j : Nat) (v : Value), vs[j]? = some v → w.cell? ⟨b, o + j, none⟩ = some v) ∧
    ∀ (i : Nat) (c : V) (v : Value), cs[i]? = some c → vs[i]? = some v → R m h w c v := by
  have hall : ∀ i, i < cs.length → ∃ v, w.cell? ⟨b, o + i, none⟩ = some v ∧ ∀ c, cs[i]? = some c → R m h w c v := by
    intro i hi
    obtain ⟨v, hv, hr⟩ := hp i cs[i] (List.getElem?_eq_getElem hi)
    refine ⟨v, hv, fun c hc => ?_⟩
    rw [List.getElem?_eq_getElem hi] at hc
    cases hc; exact hr
  let f : Nat → Value := fun j => if hj : j < cs.length then Classical.choose (hall j hj) else undef
  refine ⟨(List.range cs.length).map f, by simp, fun j v hv => ?_, fun i c v hc hv => ?_⟩
  · by_cases hj : j < cs.length
    · simp [hj] at hv
      subst hv
      simp only [f, hj, dite_true]; exact (Classical.choose_spec (hall j hj)).1
    · simp [hj] at hv
  · have hj : i < cs.length := (List.getElem?_eq_some_iff.1 hc).1
    simp [hj] at hv
    subst hv
    simp only [f, hj, dite_true]; exact (Classical.choose_spec (hall i hj)).2 c hc
theorem Pt.drop_take {b o : Nat} {cs : List V} (hp : Pt m h w b o cs) (k n : Nat) : Pt m h w b (o + k) ((cs.drop k).take n) := by
  intro i c hc
  rw [List.getElem?_take] at hc
  split at hc
  · rw [List.getElem?_drop] at hc
    rw [Nat.add_assoc]
    exact hp (k + i) c hc
  · cases hc
theorem R.sl_at (r : Rel m h w) {x off len cap k : Nat} {v : Value} {cs : List V} (hv : R m h w (.sl x off len cap k) v) (hb : blockOf h x = some cs) :
    ∃ b rc arr T, m x = some b ∧ v = .slice (some ⟨b, off, none⟩) len rc ∧ cap ≤ rc ∧ len ≤ rc ∧ off + rc * k ≤ arr.size ∧ w.heap[b]? = some (.cells arr T (0, 0)) ∧ cs.length ≤ arr.size ∧ Pt m h w b 0 cs := by
  have hc := live_of_blockOf hb
  cases hv with
  | sl hlt hcap hlen hv =>
    obtain ⟨b, hmb, rfl, hsz⟩ := hv ⟨cs, hc⟩
    obtain ⟨arr, T, ha, hl, hr⟩ := (r.blk x cs b hc hmb).cells (notMap_of_blockOf hb)
    refine ⟨b, _, arr, T, hmb, rfl, hcap, hlen, by simpa [rsz, ha] using hsz, ha, hl, fun i c hic => ?_⟩
    obtain ⟨u, hu, hru⟩ := hr i c hic
    exact ⟨u, by simp [World.cell?, ha, hu], hru⟩
theorem flatten_get {k : Nat} : ∀ {xs : List (List V)} {q : Nat} {c : V}, (∀ e ∈ xs, e.length = k) → xs.flatten[q]? = some c → 0 < k ∧ ∃ e, xs[q / k]? = some e ∧ e[q % k]? = some c
  | [], q, c, _, hq => by simp at hq
  | e :: xs, q, c, hl, hq => by
    have he : e.length = k := hl e List.mem_cons_self
    rw [List.flatten_cons] at hq
    by_cases hlt : q < e.length
    · rw [List.getElem?_append_left hlt] at hq
      have hk : 0 < k := by omega
      rw [he] at hlt
      exact ⟨hk, e, by simp [Nat.div_eq_of_lt hlt], by rw [Nat.mod_eq_of_lt hlt]; exact hq⟩
    · rw [List.getElem?_append_right (by omega)] at hq
      obtain ⟨hk, e', h1, h2⟩ := flatten_get (fun e he => hl e (List.mem_cons_of_mem _ he)) hq
      have hge : k ≤ q := by omega
      refine ⟨hk, e', ?_, ?_⟩
      · rw [Nat.div_eq_sub_div hk hge, List.getElem?_cons_succ, ← he]; rw [he]; rw [he] at h1; exact h1
      · rw [Nat.mod_eq_sub_mod hge]; rw [he] at h2; exact h2
theorem src_ok (r : Rel m h w) {s n : Nat} {x : V} {xv : Value} {new : List V} (hx : R m h w x xv) (hs : srcCells h s x = some (n, new)) :
    ∃ news : List Value, news.length = new.length ∧ new.length = n * s ∧ (∀ (i : Nat) (c : V) (v : Value), new[i]? = some c → news[i]? = some v → R m h w c v) ∧
      (∀ w' : World, (Builtin.lenOf xv).run P w' = .ok n w') ∧ (∀ w' : World, w'.heap = w.heap → (Builtin.firstCells s n xv).run P w' = .ok news.toArray w') ∧ ∃ a l c, xv = .slice a l c := by
  unfold srcCells at hs
  split at hs
  · rename_i y off len cap k
    split at hs
    · rename_i cs hb
      split at hs
      · rename_i hc
        simp only [Bool.and_eq_true, decide_eq_true_eq] at hc
        obtain ⟨rfl, hle⟩ := hc
        cases hs
        obtain ⟨b, rc, arr, T, hmb, rfl, _, _, _, _, _, hpt⟩ := hx.sl_at r hb
        obtain ⟨vs, hv1, hv2, hv3⟩ := (hpt.drop_take off (n * k)).values
        have hlen : ((cs.drop off).take (n * k)).length = n * k := by simp; omega
        refine ⟨vs, hv1, hlen, hv3, fun w' => by simp [Builtin.lenOf], fun w' hh => ?_, _, _, _, rfl⟩
        refine run_firstCells_some w' k n _ n rc vs (by rw [hv1, hlen]) fun j v hj => ?_
        rw [cell?_heap hh, add_lit]
        have := hv2 j v hj
        rwa [Nat.zero_add] at this
      · cases hs
    · split at hs
      · rename_i h0
        subst h0
        cases hs
        cases hx
        exact ⟨[], rfl, by simp, by simp, fun w' => by simp [Builtin.lenOf], fun w' _ => by simp [Builtin.firstCells, loadCells, loadCellsFrom], _, _, _, rfl⟩
      · cases hs
  · rename_i xs
    split at hs
    · rename_i hall
      cases hs
      simp only [List.all_eq_true, beq_iff_eq] at hall
      have hfl : xs.flatten.length = xs.length * s := by
        clear hx
        induction xs with
        | nil => simp
        | cons e xs ih =>
          have h1 := hall e List.mem_cons_self
          have h2 := ih fun e he => hall e (List.mem_cons_of_mem _ he)
          simp only [List.flatten_cons, List.length_append, List.length_cons, h1, h2, Nat.add_mul, Nat.one_mul]; omega
      cases hx with
      | lst0 a rc _ =>
        refine ⟨[], rfl, by simp, by simp, fun w' => by simp [Builtin.lenOf], fun w' _ => ?_, _, _, _, rfl⟩
        cases a <;> simp [Builtin.firstCells, loadCells, loadCellsFrom]
      | lst rv him hrc hk hc hf hr =>
        rename_i b o k rc
        have hpt : Pt m h w b o xs.flatten := by
          intro q c hq
          obtain ⟨h0, e, he, hec⟩ := flatten_get hall hq
          have hks : k = s := by rw [← hk _ _ he]; exact hall e (List.mem_of_getElem? he)
          subst hks
          refine ⟨_, ?_, hr _ _ _ _ he hec⟩
          rw [← hc _ _ _ _ he hec, Nat.add_assoc, Nat.mul_comm (q / k) k, Nat.div_add_mod]
        obtain ⟨vs, hv1, hv2, hv3⟩ := hpt.values
        refine ⟨vs, hv1, hfl, hv3, fun w' => by simp [Builtin.lenOf], fun w' hh => ?_, _, _, _, rfl⟩
        refine run_firstCells_some w' s xs.length _ _ rc vs (by rw [hv1, hfl]) fun j v hj => ?_
        rw [cell?_heap hh, add_lit]
        exact hv2 j v hj
    · cases hs
  · cases hs
    cases hx
    exact ⟨[], rfl, by simp, by simp, fun w' => by simp [Builtin.lenOf], fun w' _ => by simp [Builtin.firstCells], _, _, _, rfl⟩
  · cases hs
end
end Go.Ab
namespace Go.Ab
section
variable {P : Program} {m : Mu} {h : Heap} {w : World}
theorem run_append_fit {t ty e : TypeId} {i : TypeInfo} (ht : P.underlying t = some (.slice e)) (hi : P.info? e = some i) {a : Addr} {sLen sCap n : Nat} {xv : Value} {news : List Value} {w' : World}
    (hlen : (Builtin.lenOf xv).run P w = .ok n w) (hf : (Builtin.firstCells i.size n xv).run P w = .ok news.toArray w) (hroom : sLen + n ≤ sCap)
    (hst : (storeCells (a.add (sLen * i.size)) news).run P w = .ok () w') :
    (Builtin.append_ #[t, t] ty #[.slice (some a) sLen sCap, xv]).run P w = .ok (.slice (some a) (sLen + n) sCap) w' := by
  simp [Builtin.append_, run_underlying ht, sizeOf, typeInfo, hi, hlen, hroom, hf, hst]
theorem run_append_grows {t ty e : TypeId} {i : TypeInfo} {z : Value} (ht : P.underlying t = some (.slice e)) (hi : P.info? e = some i) (hz : i.zero = some z) {base : Option Addr} {sLen sCap n : Nat} {xv : Value} {olds news : List Value}
    (hlen : (Builtin.lenOf xv).run P w = .ok n w) (hf : (Builtin.firstCells i.size n xv).run P w.drew = .ok news.toArray w.drew)
    (ho : (Builtin.firstCells i.size sLen (.slice base sLen sCap)).run P w.drew = .ok olds.toArray w.drew)
    (hg : sCap < sLen + n) (h63 : ((sLen + n : Nat) : Int) ≤ 9223372036854775807) (hfit : Builtin.nextslicecap (sLen + n) sCap * i.bytes ≤ 281474976710656) :
    (Builtin.append_ #[t, t] ty #[.slice base sLen sCap, xv]).run P w =
      .ok (.slice (some ⟨w.heap.size, 0, none⟩) (sLen + n) (grownCap w (sLen + n) sCap e))
        (w.drew.alloc (.cells (olds.toArray ++ news.toArray ++ Builtin.zeroCells z.cells (grownCap w (sLen + n) sCap e - (sLen + n))) e)) := by
  have hn : ¬ (sLen + n ≤ sCap) := by omega
  have h63' : ¬ (9223372036854775807 < ((sLen : Int) + (n : Int))) := by omega
  have h48' : ¬ (281474976710656 < Builtin.nextslicecap (sLen + n) sCap * i.bytes) := by omega
  have he : ∀ a b c : Array Value, a ++ b ++ c = a ++ (b ++ c) := fun a b c => Array.append_assoc
  rw [he]
  simp [Builtin.append_, run_underlying ht, sizeOf, typeInfo, zeroValue, hi, hz, hlen, hn, h63', h48', Question.forced, ho, hf, newRow, grownCap]
theorem live_kill {h : Heap} {x y : Nat} {o : Option (List V)} (hl : live ((h.set x none) ++ [o]) y) : (y < h.length ∧ y ≠ x ∧ live h y) ∨ y = h.length := by
  have hlt := live_lt hl
  simp at hlt
  by_cases hy : y = h.length
  · exact .inr hy
  · have hy' : y < h.length := by omega
    obtain ⟨cs, hc⟩ := hl
    rw [List.getElem?_append_left (by simpa using hy')] at hc
    by_cases hxy : x = y
    · subst hxy; rw [List.getElem?_set_self hy'] at hc; simp at hc
    · rw [List.getElem?_set_ne hxy] at hc
      exact .inl ⟨hy', fun e => hxy e.symm, cs, hc⟩
theorem evo_kill {x nb : Nat} {cs : List V} {w' : World} (hnb : w.heap.size ≤ nb ∨ (live h x ∧ m x = some nb))
    (hframe : ∀ b, b < w.heap.size → b ≠ nb → w'.heap[b]? = w.heap[b]?) (hsize : w.heap.size ≤ w'.heap.size) (hrs : ∀ b, b < w.heap.size → rsz w b ≤ rsz w' b)
    (hos : w'.os = w.os) (htp : w'.tape = w.tape) (hout : w'.output = w.output) : Evo m h w (upd m h.length nb) ((h.set x none) ++ [some cs]) w' where
  zeq := rfl
  len := by simp
  keep := fun y hy hl => by
    rcases live_kill hl with ⟨_, _, h3⟩ | h3
    · exact ⟨h3, by simp [upd, Nat.ne_of_lt hy]⟩
    · omega
  own := fun y b hl hb => by
    rcases live_kill hl with ⟨h1, _, h3⟩ | rfl
    · exact .inl ⟨y, h3, by simpa [upd, Nat.ne_of_lt h1] using hb⟩
    · simp only [upd, if_true, Option.some.injEq] at hb
      subst hb
      rcases hnb with h1 | ⟨h1, h2⟩
      · exact .inr h1
      · exact .inl ⟨x, h1, h2⟩
  frame := fun b hb hn => hframe b hb fun e => by
    subst e
    rcases hnb with h1 | ⟨h1, h2⟩
    · omega
    · exact hn x h1 h2
  size := hsize
  rs := hrs
  os := hos
  tape := htp
  output := hout
theorem rel_kill (r : Rel m h w) {x nb : Nat} {cs : List V} {w' : World} (e : Evo m h w (upd m h.length nb) ((h.set x none) ++ [some cs]) w') (hnb : w.heap.size ≤ nb ∨ (live h x ∧ m x = some nb))
    (hframe : ∀ b, b < w.heap.size → b ≠ nb → w'.heap[b]? = w.heap[b]?) {arr : Array Value} {T : TypeId} (ha : w'.heap[nb]? = some (.cells arr T (0, 0)))
    (hl : cs.length ≤ arr.size) (hr : ∀ (i : Nat) (c : V), cs[i]? = some c → ∃ v, arr[i]? = some v ∧ R m h w c v) :
    Rel (upd m h.length nb) ((h.set x none) ++ [some cs]) w' := by
  have hne : ∀ y b, y < h.length → y ≠ x → live h y → m y = some b → b ≠ nb := by
    rintro y b hy hyx hly hb rfl
    rcases hnb with h1 | ⟨h1, h2⟩
    · have := r.lt y b hly hb; omega
    · exact hyx (r.inj y x b hly h1 hb h2)
  refine ⟨fun y b hl hb hz => ?_, fun b hb => Nat.lt_of_lt_of_le (r.zl b hb) e.size, fun y z b hy hz hby hbz => ?_, fun y cs' b hy hb => ?_⟩
  · rcases live_kill hl with ⟨h1, _, h3⟩ | rfl
    · simp only [upd, Nat.ne_of_lt h1, if_false] at hb
      exact r.zo y b h3 hb hz
    · simp only [upd, if_true, Option.some.injEq] at hb
      subst hb
      rcases hnb with h1 | ⟨h1, h2⟩
      · have := r.zl nb hz; omega
      · exact r.zo x nb h1 h2 hz
  · rcases live_kill hy with ⟨h1, h2, h3⟩ | rfl
    · simp only [upd, Nat.ne_of_lt h1, if_false] at hby
      rcases live_kill hz with ⟨g1, g2, g3⟩ | rfl
      · simp only [upd, Nat.ne_of_lt g1, if_false] at hbz
        exact r.inj y z b h3 g3 hby hbz
      · simp only [upd, if_true, Option.some.injEq] at hbz
        exact absurd hbz.symm (hne y b h1 h2 h3 hby)
    · simp only [upd, if_true, Option.some.injEq] at hby
      rcases live_kill hz with ⟨g1, g2, g3⟩ | rfl
      · simp only [upd, Nat.ne_of_lt g1, if_false] at hbz
        exact absurd hby.symm (hne z b g1 g2 g3 hbz)
      · rfl
  · rcases live_kill ⟨cs', hy⟩ with ⟨h1, h2, h3⟩ | rfl
    · simp only [upd, Nat.ne_of_lt h1, if_false] at hb
      rw [List.getElem?_append_left (by simpa using h1), List.getElem?_set_ne (fun e => h2 e.symm)] at hy
      exact (r.blk y cs' b hy hb).carry (hframe b (r.lt y b h3 hb) (hne y b h1 h2 h3 hb)) fun c v _ hrv => hrv.evo e r.lt
    · simp only [upd, if_true, Option.some.injEq] at hb
      subst hb
      simp at hy
      subst hy
      refine .inl ⟨arr, T, ha, hl, fun i c hc => ?_⟩
      obtain ⟨v, hv, hrv⟩ := hr i c hc
      exact ⟨v, hv, hrv.evo e r.lt⟩
theorem kill_sl {x nb : Nat} {cs : List V} {w' : World} {len cap k rc : Nat} (hcap : cap ≤ rc) (hlen : len ≤ rc) (hsz : rc * k ≤ rsz w' nb) :
    R (upd m h.length nb) ((h.set x none) ++ [some cs]) w' (.sl h.length 0 len cap k) (.slice (some ⟨nb, 0, none⟩) len rc) :=
  .sl (by simp) hcap hlen fun _ => ⟨nb, by simp [upd], rfl, by omega⟩
theorem roomy_bounds {n y : Nat} (hr : roomy n y = true) : n * y ≤ 2 ^ 40 ∧ n ≤ 2 ^ 40 := by
  simpa [roomy] using hr
theorem all_one {new : List V} {news : List Value} (hall : new.all V.leaf = true) (hlen : news.length = new.length) (hr : ∀ (i : Nat) (c : V) (v : Value), new[i]? = some c → news[i]? = some v → R m h w c v) : ∀ u ∈ news, u.oneCell' = true := by
  intro u hu
  obtain ⟨i, hi, rfl⟩ := List.getElem_of_mem hu
  have hi' : i < new.length := by omega
  exact leaf_one (List.all_eq_true.1 hall _ (List.getElem_mem hi')) (hr i _ _ (List.getElem?_eq_getElem hi') (List.getElem?_eq_getElem hi))
theorem append_ok (r : Rel m h w) {cfg : Cfg} {t u ty : TypeId} {d x y : V} {dv xv : Value} {h' : Heap} (hd : R m h w d dv) (hx : R m h w x xv) (hy : appendV P cfg h t u d x = some (y, h')) :
    t = u ∧ ∃ v w', (Builtin.append_ #[t, t] ty #[dv, xv]).run P w = .ok v w' ∧ Out m h w y h' v w' := by
  unfold appendV at hy
  split at hy
  · rename_i elem ht
    split at hy
    · rename_i s by_ hs hby
      obtain ⟨i, hi, rfl⟩ := szOf_info hs
      have hbi : i.bytes = by_ := by simpa [bytesOf, hi] using hby
      subst hbi
      split at hy
      · rename_i n new hsrc
        obtain ⟨news, hn1, hn2, hn3, hn4, hn5, _⟩ := src_ok (P := P) r hx hsrc
        split at hy
        · rename_i hc
          simp only [Bool.and_eq_true, decide_eq_true_eq] at hc
          obtain ⟨⟨⟨hall, hs0⟩, rfl⟩, hzf⟩ := hc
          obtain ⟨z, hz, hzl⟩ : ∃ z, zeroOf P elem = some z ∧ (vcells z).length = i.size := by
            unfold zeroFits at hzf
            split at hzf
            · rename_i z hz; exact ⟨z, hz, by simpa using hzf⟩
            · cases hzf
          refine ⟨rfl, ?_⟩
          obtain ⟨zv, _, hzo, hzi⟩ := run_zeroValue' hz w
          have hzi' : i.zero = some zv := by simpa [hi] using hzi
          have hzs : zv.cells.size = i.size := by rw [← hzl]; exact (zero_PW (m := m) (h := h) (w := w) hzo).1
          have h1 := all_one hall hn1 hn3
          have hnl : news.length = n * i.size := by omega
          split at hy
          · -- a nil slice
            cases hd
            split at hy
            · rename_i hrm
              have hrb := roomy_bounds hrm
              split at hy
              · rename_i hn0
                subst hn0
                cases hy
                have hnews : news = [] := List.eq_nil_of_length_eq_zero (by omega)
                subst hnews
                exact ⟨.slice none 0 0, w, by simp [Builtin.append_, run_underlying ht, sizeOf, typeInfo, hi, hn4, hn5 w rfl], .same r .nils⟩
              · rename_i hn0
                cases hy
                have hgc := grownCap_ge w (0 + n) 0 elem
                have hrun := run_append_grows (P := P) (w := w) (ty := ty) (base := none) (sLen := 0) (sCap := 0) (n := n) (xv := xv) (olds := []) (news := news) ht hi hzi' (hn4 w) (hn5 _ rfl)
                  (by simp [Builtin.firstCells]) (by omega) (by omega) (growslice_fits (by omega) (by rw [Nat.zero_add]; omega))
                simp only [Nat.zero_add] at hrun hgc
                refine ⟨_, _, hrun, _, (evo_heap (w := w) (w' := w.drew) rfl rfl rfl rfl).trans (evo_alloc _ _), rel_alloc (rel_heap r (w' := w.drew) rfl rfl rfl rfl) (by simp; omega) ?_, ?_⟩
                · intro j c hj
                  have hlt : j < news.length := by rw [hn1]; exact (List.getElem?_eq_some_iff.1 hj).1
                  refine ⟨news[j], by simp [Array.getElem?_append, hlt], (hn3 j c _ hj (List.getElem?_eq_getElem hlt)).evo (evo_heap (w := w) (w' := w.drew) rfl rfl rfl rfl) r.lt⟩
                · refine new_sl (w := w.drew) hgc ?_ _ hgc
                  rw [rsz_new]
                  simp only [Array.size_append, List.size_toArray, size_zeroCells, hnl, hzs, List.length_nil, Nat.zero_add, ← Nat.add_mul]
                  exact Nat.mul_le_mul_right _ (by omega)
            · cases hy
          · rename_i b off len cap k
            split at hy
            · rename_i hc
              simp only [Bool.and_eq_true, decide_eq_true_eq] at hc
              obtain ⟨rfl, hrm⟩ := hc
              have hrb := roomy_bounds hrm
              split at hy
              · rename_i hfits
                split at hy
                · rename_i h2 hst
                  simp only [Option.some.injEq, Prod.mk.injEq] at hy
                  obtain ⟨rfl, rfl⟩ := hy
                  obtain ⟨cs, hb⟩ : ∃ cs, blockOf h b = some cs := by
                    unfold storeCellsV at hst
                    split at hst
                    · rename_i cs hb; exact ⟨cs, hb⟩
                    · cases hst
                  obtain ⟨b', rc, arr, T, hmb, rfl, hcap, hlen, hsz, ha, hle, hpt⟩ := hd.sl_at r hb
                  obtain ⟨w', hrun, e, r'⟩ := storeCells_ok (P := P) r hmb hb hst hn1 hn3 h1
                  refine ⟨_, w', run_append_fit ht hi (hn4 w) (hn5 w rfl) (by omega) (by rw [add_lit]; exact hrun), m, e, r', ?_⟩
                  refine .sl (Nat.lt_of_lt_of_le (live_lt ⟨cs, live_of_blockOf hb⟩) e.len) hcap (by omega) fun _ => ⟨b', hmb, rfl, ?_⟩
                  have h1 := e.rs b' (r.lt b b' ⟨cs, live_of_blockOf hb⟩ hmb)
                  have h2 : rsz w b' = arr.size := by simp [rsz, ha]
                  omega
                · cases hy
              · rename_i hfits
                split at hy
                · rename_i cs hb
                  split at hy
                  · rename_i hc2
                    simp only [Bool.and_eq_true, decide_eq_true_eq] at hc2
                    obtain ⟨⟨rfl, _⟩, hcl⟩ := hc2
                    simp only [Option.some.injEq, Prod.mk.injEq] at hy
                    obtain ⟨rfl, rfl⟩ := hy
                    obtain ⟨b', rc, arr, T, hmb, rfl, hcap, hlen, hsz, ha, hle, hpt⟩ := hd.sl_at r hb
                    have hlive : live h b := ⟨cs, live_of_blockOf hb⟩
                    have hb'lt := r.lt b b' hlive hmb
                    have htl : (cs.take (len * i.size)).length = len * i.size := by simp; omega
                    have hmul : (len + n) * i.size = len * i.size + n * i.size := Nat.add_mul _ _ _
                    by_cases hroom : len + n ≤ rc
                    · -- in place
                      have hrcm : (len + n) * i.size ≤ rc * i.size := Nat.mul_le_mul_right _ hroom
                      have hst := run_storeCells_at P b' (len * i.size) T news 0 arr w ha (by omega) h1
                      simp only [Nat.add_zero] at hst
                      have hrun := run_append_fit (ty := ty) (a := ⟨b', 0, none⟩) ht hi (hn4 w) (hn5 w rfl) hroom (by rw [add_lit, Nat.zero_add]; exact hst)
                      generalize harr : (arr.toList.take (len * i.size) ++ news ++ arr.toList.drop (len * i.size + news.length)).toArray = arr' at hst hrun
                      have hsz' : arr'.size = arr.size := by rw [← harr]; simp; omega
                      have e : Evo m h w (upd m h.length b') ((h.set b none) ++ [some (cs.take (len * i.size) ++ new)]) (w.setRow b' arr') :=
                        evo_kill (.inr ⟨hlive, hmb⟩) (fun c _ hc => setRow_other w b' c arr' hc) (by simp) (fun c _ => by
                          by_cases hcb : c = b'
                          · subst hcb; simp only [rsz, ha, setRow_heap w c arr arr' T (0, 0) ha]; omega
                          · rw [rsz_of_block (setRow_other w b' c arr' hcb)]; exact Nat.le_refl _) rfl rfl rfl
                      have hget : ∀ q, q < (len + n) * i.size → arr'[q]? = if q < len * i.size then arr[q]? else news[q - len * i.size]? := by
                        intro q hq
                        have hal : (arr.toList.take (len * i.size)).length = len * i.size := by simp; omega
                        rw [← harr, List.getElem?_toArray]
                        by_cases hql : q < len * i.size
                        · rw [if_pos hql, List.append_assoc, List.getElem?_append_left (by omega)]; simp [hql]
                        · rw [if_neg hql, List.append_assoc, List.getElem?_append_right (by omega), hal, List.getElem?_append_left (by omega)]
                      refine ⟨_, _, hrun, _, e, rel_kill r e (.inr ⟨hlive, hmb⟩) (fun c _ hc => setRow_other w b' c arr' hc) (setRow_heap w b' arr arr' T (0, 0) ha) (by simp only [List.length_append, htl, hn2, hsz']; omega) ?_, ?_⟩
                      · intro q c hq
                        have hqlt : q < (len + n) * i.size := by
                          have := (List.getElem?_eq_some_iff.1 hq).1
                          simp only [List.length_append, htl, hn2] at this; omega
                        rw [hget q hqlt]
                        by_cases hql : q < len * i.size
                        · rw [if_pos hql]
                          rw [List.getElem?_append_left (by omega), List.getElem?_take, if_pos hql] at hq
                          obtain ⟨v, hv, hrv⟩ := hpt q c hq
                          refine ⟨v, ?_, hrv⟩
                          simpa [World.cell?, ha] using hv
                        · rw [if_neg hql]
                          rw [List.getElem?_append_right (by omega), htl] at hq
                          have hlt : q - len * i.size < news.length := by omega
                          exact ⟨_, List.getElem?_eq_getElem hlt, hn3 _ c _ hq (List.getElem?_eq_getElem hlt)⟩
                      · refine kill_sl (by omega) (by omega) ?_
                        simp only [rsz, setRow_heap w b' arr arr' T (0, 0) ha]; omega
                    · -- anew
                      have hpt' : Pt m h w b' 0 (cs.take (len * i.size)) := by simpa using hpt.drop_take 0 (len * i.size)
                      obtain ⟨olds, ho1, ho2, ho3⟩ := hpt'.values
                      have hgc := grownCap_ge w (len + n) rc elem
                      have hrun := run_append_grows (P := P) (w := w) (ty := ty) (base := some ⟨b', 0, none⟩) (sLen := len) (sCap := rc) (n := n) (xv := xv) (olds := olds) (news := news) ht hi hzi' (hn4 w) (hn5 _ rfl)
                        (run_firstCells_some w.drew i.size len _ _ _ olds (by rw [ho1, htl]) (fun j v hj => by rw [cell?_heap (w := w) (w' := w.drew) rfl, add_lit]; exact ho2 j v hj))
                        (by omega) (by omega) (growslice_fits (by omega) (by omega))
                      generalize harr : olds.toArray ++ news.toArray ++ Builtin.zeroCells zv.cells (grownCap w (len + n) rc elem - (len + n)) = arr' at hrun
                      have hsz' : arr'.size = grownCap w (len + n) rc elem * i.size := by
                        rw [← harr]
                        simp only [Array.size_append, List.size_toArray, size_zeroCells, hnl, hzs, ho1, htl, ← Nat.add_mul]
                        congr 1; omega
                      have hfr : ∀ c, c < w.heap.size → c ≠ w.heap.size → (w.drew.alloc (.cells arr' elem)).heap[c]? = w.heap[c]? := fun c hc _ => pushed_old (w := w.drew) hc
                      have e : Evo m h w (upd m h.length w.heap.size) ((h.set b none) ++ [some (cs.take (len * i.size) ++ new)]) (w.drew.alloc (.cells arr' elem)) :=
                        evo_kill (.inl (Nat.le_refl _)) hfr (by simp) (fun c hc => by rw [rsz_of_block (hfr c hc (Nat.ne_of_lt hc))]; exact Nat.le_refl _) rfl rfl rfl
                      refine ⟨_, _, hrun, _, e, rel_kill r e (.inl (Nat.le_refl _)) hfr (arr := arr') (T := elem) (pushed_new (w := w.drew)) ?_ ?_, ?_⟩
                      · rw [hsz']
                        simp only [List.length_append, htl, hn2, ← Nat.add_mul]
                        exact Nat.mul_le_mul_right _ hgc
                      · intro q c hq
                        rw [← harr]
                        by_cases hql : q < len * i.size
                        · rw [List.getElem?_append_left (by omega)] at hq
                          have hlt : q < olds.length := by omega
                          refine ⟨olds[q], ?_, ho3 q c _ hq (List.getElem?_eq_getElem hlt)⟩
                          rw [Array.append_assoc, Array.getElem?_append_left (by simpa using hlt)]
                          simp [hlt]
                        · rw [List.getElem?_append_right (by omega), htl] at hq
                          have hlt : q - len * i.size < news.length := by rw [hn1]; exact (List.getElem?_eq_some_iff.1 hq).1
                          refine ⟨news[q - len * i.size], ?_, hn3 _ c _ hq (List.getElem?_eq_getElem hlt)⟩
                          have hol : olds.length = len * i.size := by omega
                          rw [Array.append_assoc, Array.getElem?_append_right (by simp; omega), Array.getElem?_append_left (by simp; omega)]
                          simp [hol, hlt]
                      · refine kill_sl hgc hgc ?_
                        have : rsz (w.drew.alloc (.cells arr' elem)) w.heap.size = arr'.size := rsz_new (w := w.drew)
                        rw [this, hsz']
                        exact Nat.le_refl _
                  · cases hy
                · cases hy
            · cases hy
          · cases hy
        · cases hy
      · cases hy
    · cases hy
  · cases hy
end
end Go.Ab
namespace Go.Ab
section
variable {P : Program} {m : Mu} {h : Heap} {w : World}
theorem wrap_small {n : Int} (h0 : 0 ≤ n) (h1 : n ≤ 2 ^ 40) : IntKind.i64.wrap n = n := IntWalk.i64_in n ⟨by omega, by omega⟩
theorem zerosFor_get {z : List V} {s : Nat} (hz : z.length = s) (hs : 0 < s) : ∀ (n q : Nat), (zerosFor z n)[q]? = if q < n * s then z[q % s]? else none
  | 0, q => by simp [zerosFor]
  | n + 1, q => by
    rw [zerosFor]
    by_cases hq : q < s
    · rw [List.getElem?_append_left (by omega), Nat.mod_eq_of_lt hq, if_pos (by rw [Nat.add_mul]; omega)]
    · have hmod : q % s = (q - s) % s := Nat.mod_eq_sub_mod (by omega)
      rw [List.getElem?_append_right (by omega), zerosFor_get hz hs n, hz, hmod]
      by_cases h2 : q - s < n * s
      · rw [if_pos h2, if_pos (by rw [Nat.add_mul]; omega)]
      · rw [if_neg h2, if_neg (by rw [Nat.add_mul]; omega)]
theorem zerosFor_length {z : List V} : ∀ n, (zerosFor z n).length = n * z.length
  | 0 => by simp [zerosFor]
  | n + 1 => by simp [zerosFor, zerosFor_length n, Nat.add_mul, Nat.add_comm]
theorem makeSlice_ok (r : Rel m h w) {t : TypeId} {l c y : V} {lv cv : Value} {h' : Heap} (hl : R m h w l lv) (hc : R m h w c cv) (hy : makeSliceV P h t l c = some (y, h')) :
    ∃ v w', (Instr.makeSlice t lv cv).run P w = .ok v w' ∧ Out m h w y h' v w' := by
  unfold makeSliceV at hy
  split at hy
  · rename_i elem n mm hu
    cases hl; cases hc
    split at hy
    · rename_i s by_ z hs hby hz
      obtain ⟨i, hi, rfl⟩ := szOf_info hs
      have hbi : i.bytes = by_ := by simpa [bytesOf, hi] using hby
      subst hbi
      split at hy
      · rename_i hcnd
        simp only [Bool.and_eq_true, decide_eq_true_eq, beq_iff_eq] at hcnd
        obtain ⟨⟨⟨⟨h0, hle⟩, hrm⟩, hzl⟩, hs0⟩ := hcnd
        have hrb := roomy_bounds hrm
        simp only [Option.some.injEq, Prod.mk.injEq] at hy
        obtain ⟨rfl, rfl⟩ := hy
        obtain ⟨zv, hzr, hzo, _⟩ := run_zeroValue' hz w
        have hpz := zero_PW (m := m) (h := h) (w := w) hzo
        have hm0 : 0 ≤ mm := by omega
        have hm40 : mm ≤ 2 ^ 40 := by omega
        have hwn : IntKind.i64.wrap n = n := wrap_small h0 (by omega)
        have hwm : IntKind.i64.wrap mm = mm := wrap_small hm0 hm40
        have hnat : ((i.bytes : Int) * mm) = ((mm.toNat * i.bytes : Nat) : Int) := by
          rw [Int.natCast_mul, Int.toNat_of_nonneg hm0, Int.mul_comm]
        have hbig : ¬ (281474976710656 < (i.bytes : Int) * mm) := by rw [hnat]; omega
        have hm0' : ¬ mm < 0 := by omega
        have hn0' : ¬ n < 0 := by omega
        have hnm' : ¬ n > mm := by omega
        generalize harr : (Array.range (mm.toNat * i.size)).map (fun q => zv.cells[q % zv.cells.size]!) = arr
        have hasz : arr.size = mm.toNat * i.size := by rw [← harr]; simp
        have hrun : (Instr.makeSlice t (.int .i64 n) (.int .i64 mm)).run P w = .ok (.slice (some ⟨w.heap.size, 0, none⟩) n.toNat mm.toNat) (w.alloc (.cells arr elem)) := by
          by_cases hz0 : mm.toNat * i.size = 0
          · have ha : arr = #[] := Array.eq_empty_of_size_eq_zero (by omega)
            have hr0 : ∀ f : Nat → Value, Array.map f (Array.range 0) = #[] := fun f => Array.eq_empty_of_size_eq_zero (by simp)
            simp [Instr.makeSlice, run_underlying hu, asInt, asIntOf, typeInfo, hi, hwn, hwm, hbig, hm0', hn0', hnm', sizeOf, hz0, newRow, ha, hr0]
          · simp [Instr.makeSlice, run_underlying hu, asInt, asIntOf, typeInfo, hi, hwn, hwm, hbig, hm0', hn0', hnm', sizeOf, hz0, hzr, newRow, ← harr]
        refine ⟨_, _, hrun, _, evo_alloc _ _, rel_alloc r (by rw [zerosFor_length, hzl, hasz]; exact Nat.le_refl _) ?_, new_sl (by omega) (by rw [rsz_new, hasz]; exact Nat.le_refl _) _ (Nat.le_refl _)⟩
        intro q c hq
        rw [zerosFor_get hzl hs0] at hq
        split at hq
        · rename_i hlt
          have hzc : zv.cells.size = i.size := by rw [hpz.1, hzl]
          have hq2 : q % i.size < zv.cells.size := by rw [hzc]; exact Nat.mod_lt _ hs0
          refine ⟨zv.cells[q % i.size], ?_, hpz.2 _ c _ hq (Array.getElem?_eq_getElem hq2)⟩
          rw [← harr]
          simp [hlt, hzc, getElem!_pos zv.cells (q % i.size) hq2]
        · cases hq
      · cases hy
    · cases hy
  · cases hy
theorem runesFrom_eq (s : ByteArray) : ∀ (b i : Nat) (acc : Array Value), Conv.runesFrom s b i acc = acc ++ ((runesOf s b i).map (Value.int .i32)).toArray
  | 0, i, acc => by simp [Conv.runesFrom, runesOf]
  | b + 1, i, acc => by
    simp only [Conv.runesFrom, runesOf]
    split
    · rw [runesFrom_eq s b]
      apply Array.ext'
      simp
    · simp
theorem bytesIn_R : ∀ {cs : List V} {vs : List Value} {bs : List UInt8}, vs.length = cs.length → (∀ (i : Nat) (c : V) (v : Value), cs[i]? = some c → vs[i]? = some v → R m h w c v) → bytesIn cs = some bs →
    ∃ ns : List Int, vs = ns.map (Value.int .u8) ∧ bs = ns.map fun n => UInt8.ofNat n.toNat
  | [], [], bs, _, _, hb => by simp [bytesIn] at hb; subst hb; exact ⟨[], rfl, rfl⟩
  | c :: cs, v :: vs, bs, hl, hr, hb => by
    unfold bytesIn at hb
    split at hb
    · rename_i h1; cases h1
    · rename_i n r h1
      cases h1
      split at hb
      · rename_i bs' hbs
        cases hb
        obtain ⟨ns, h1, h2⟩ := bytesIn_R (by simpa using hl) (fun i c v hc hv => hr (i + 1) c v (by simpa using hc) (by simpa using hv)) hbs
        have := hr 0 _ v rfl rfl
        cases this
        exact ⟨n :: ns, by simp [h1], by simp [h2]⟩
      · cases hb
    · cases hb
  | [], _ :: _, _, hl, _, _ => by simp at hl
  | _ :: _, [], _, hl, _, _ => by simp at hl
theorem foldl_push (ns : List Int) (r : ByteArray) : ns.foldl (fun r n => r.push (UInt8.ofNat n.toNat)) r = ⟨r.data ++ (ns.map fun n => UInt8.ofNat n.toNat).toArray⟩ := by
  induction ns generalizing r with
  | nil => simp
  | cons n ns ih =>
    rw [List.foldl_cons, ih]
    congr 1
    show r.data.push _ ++ _ = _
    apply Array.ext'
    simp
theorem elems_ok (r : Rel m h w) {x : V} {xv : Value} {cs : List V} (hx : R m h w x xv) (he : elemsOf h x = some cs) :
    ∃ vs : List Value, vs.length = cs.length ∧ (∀ (i : Nat) (c : V) (v : Value), cs[i]? = some c → vs[i]? = some v → R m h w c v) ∧
      (((∃ l c, xv = .slice none l c) ∧ vs = []) ∨ ∃ a len cap, xv = .slice (some a) len cap ∧ (loadCells a len).run P w = .ok vs.toArray w) := by
  have hsrc : srcCells h 1 x = some (cs.length, cs) ∨ False := by
    unfold elemsOf at he
    split at he
    · rename_i y off len cap k
      split at he
      · rename_i bl hb
        split at he
        · rename_i hc
          simp only [Bool.and_eq_true, decide_eq_true_eq] at hc
          obtain ⟨rfl, hle⟩ := hc
          cases he
          left
          simp only [srcCells, hb, Nat.mul_one, hle, decide_true, Bool.and_true, if_true, Option.some.injEq, Prod.mk.injEq, and_true]
          simp; omega
        · cases he
      · cases he
    · rename_i xs
      left
      have key : ∀ (xs : List (List V)) (cs : List V), (xs.mapM fun e => match e with | [c] => some c | _ => none) = some cs → (xs.all (fun e => e.length == 1)) = true ∧ xs.flatten = cs ∧ xs.length = cs.length := by
        intro xs
        induction xs with
        | nil => intro cs h; simp at h; subst h; simp
        | cons e xs ih =>
          intro cs h
          simp only [List.mapM_cons, Option.bind_eq_bind, Option.bind_eq_some_iff, Option.pure_def] at h
          obtain ⟨c, h1, cs', h2, h3⟩ := h
          cases h3
          obtain ⟨i1, i2, i3⟩ := ih cs' h2
          match e, h1 with
          | [c'], h1 => cases h1; simp [i1, i2, i3]
      obtain ⟨k1, k2, k3⟩ := key xs cs he
      simp only [srcCells, k1, if_true, k2, k3]
    · cases he; left; rfl
    · cases he
  rcases hsrc with hsrc | hf
  · obtain ⟨news, h1, h2, h3, h4, h5, a, l, c, rfl⟩ := src_ok (P := P) r hx hsrc
    refine ⟨news, h1, h3, ?_⟩
    have h6 := h5 w rfl
    have h7 := h4 w
    simp only [Builtin.lenOf, Sem.run_pure, Result.ok.injEq, and_true] at h7
    subst h7
    cases a with
    | some a =>
      right
      refine ⟨a, _, _, rfl, ?_⟩
      simpa [Builtin.firstCells] using h6
    | none =>
      left
      have hn : news = [] := by
        simp only [Builtin.firstCells, Sem.run_pure, Result.ok.injEq, and_true] at h6
        have := congrArg Array.toList h6
        simpa using this.symm
      exact ⟨⟨_, _, rfl⟩, hn⟩
  · exact hf.elim
theorem runesIn_R : ∀ {cs : List V} {vs : List Value} {ns : List Int}, vs.length = cs.length → (∀ (i : Nat) (c : V) (v : Value), cs[i]? = some c → vs[i]? = some v → R m h w c v) → runesIn cs = some ns → vs = ns.map (Value.int .i32)
  | [], [], ns, _, _, hb => by simp [runesIn] at hb; subst hb; rfl
  | c :: cs, v :: vs, ns, hl, hr, hb => by
    unfold runesIn at hb
    split at hb
    · rename_i h1; cases h1
    · rename_i n r h1
      cases h1
      split at hb
      · rename_i ns' hns
        cases hb
        have ih := runesIn_R (by simpa using hl) (fun i c v hc hv => hr (i + 1) c v (by simpa using hc) (by simpa using hv)) hns
        have := hr 0 _ v rfl rfl
        cases this
        simp [ih]
      · cases hb
    · cases hb
  | [], _ :: _, _, hl, _, _ => by simp at hl
  | _ :: _, [], _, hl, _, _ => by simp at hl
theorem run_forIn_runes {w : World} (body : Value → ByteArray → Sem (ForInStep ByteArray)) (hb : ∀ n r, (body (.int .i32 n) r).run P w = .ok (.yield (r ++ Utf8.encode n)) w) (ns : List Int) (r : ByteArray) :
    (forIn (ns.map (Value.int .i32)) r body).run P w = .ok (ns.foldl (fun s n => s ++ Utf8.encode n) r) w := by
  induction ns generalizing r with
  | nil => simp [Sem.run_pure]
  | cons n ns ih => simp only [List.map_cons, List.forIn_cons, Sem.run_bind, hb, Result.andThen_ok, ih, List.foldl_cons]
theorem run_runesToString (w : World) (a : Addr) (len cap : Nat) (ns : List Int) (h : (loadCells a len).run P w = .ok (ns.map (Value.int .i32)).toArray w) :
    (Conv.runesToString (.slice (some a) len cap)).run P w = .ok (.string (encAll ns)) w := by
  unfold Conv.runesToString
  simp only [Sem.run_bind, h, Result.andThen, List.forIn_toArray]
  rw [run_forIn_runes _ (by intro n r; simp [Sem.run_pure])]
  simp [Sem.run_pure, encAll]
theorem conv_ok (r : Rel m h w) {src dst : TypeId} {x y : V} {xv : Value} {h' : Heap} (hx : R m h w x xv) (hy : convV P h src dst x = some (y, h')) :
    ∃ v w', (convert src dst xv).run P w = .ok v w' ∧ Out m h w y h' v w' := by
  unfold convV at hy
  split at hy
  · rename_i e hs hd
    split at hy
    · rename_i he
      split at hy
      · rename_i cs hcs
        split at hy
        · rename_i bs hbs
          simp only [Option.some.injEq, Prod.mk.injEq] at hy
          obtain ⟨rfl, rfl⟩ := hy
          obtain ⟨vs, h1, h2, h3⟩ := elems_ok (P := P) r hx hcs
          obtain ⟨ns, rfl, rfl⟩ := bytesIn_R h1 h2 hbs
          rcases h3 with ⟨⟨l, c, rfl⟩, h4⟩ | ⟨a, len, cap, rfl, h4⟩
          · have : ns = [] := by simpa using h4
            subst this
            exact ⟨.string ByteArray.empty, w, by simp [convert, run_underlying hs, run_underlying hd, run_underlying he, Conv.bytesToString], .same r (.str _)⟩
          · have hb := run_bytesToString w a len cap ns h4
            rw [foldl_push] at hb
            refine ⟨.string ⟨ByteArray.empty.data ++ (ns.map fun n => UInt8.ofNat n.toNat).toArray⟩, w, by simp only [convert, Sem.run_bind, run_underlying hs, run_underlying hd, run_underlying he, Result.andThen_ok, hb], .same r ?_⟩
            have : (⟨ByteArray.empty.data ++ (ns.map fun n => UInt8.ofNat n.toNat).toArray⟩ : ByteArray) = ⟨(ns.map fun n => UInt8.ofNat n.toNat).toArray⟩ := by
              show (⟨#[] ++ _⟩ : ByteArray) = _
              rw [Array.empty_append]
            rw [this]
            exact .str _
        · cases hy
      · cases hy
    · rename_i he
      split at hy
      · rename_i cs hcs
        split at hy
        · rename_i ns hns
          simp only [Option.some.injEq, Prod.mk.injEq] at hy
          obtain ⟨rfl, rfl⟩ := hy
          obtain ⟨vs, h1, h2, h3⟩ := elems_ok (P := P) r hx hcs
          have hvs := runesIn_R h1 h2 hns
          subst hvs
          rcases h3 with ⟨⟨l, c, rfl⟩, h4⟩ | ⟨a, len, cap, rfl, h4⟩
          · have : ns = [] := by simpa using h4
            subst this
            exact ⟨.string ByteArray.empty, w, by simp [convert, run_underlying hs, run_underlying hd, run_underlying he, Conv.runesToString], .same r (.str _)⟩
          · have hb := run_runesToString (P := P) w a len cap ns h4
            exact ⟨.string (encAll ns), w, by simp only [convert, Sem.run_bind, run_underlying hs, run_underlying hd, run_underlying he, Result.andThen_ok, hb], .same r (.str _)⟩
        · cases hy
      · cases hy
    · cases hy
  · rename_i sd k hs hd
    split at hy
    · rename_i k' n
      cases hx
      simp only [Option.some.injEq, Prod.mk.injEq] at hy
      obtain ⟨rfl, rfl⟩ := hy
      exact ⟨.int k (k.wrap n), w, by cases sd <;> simp [convert, run_underlying hs, run_underlying hd, Conv.intToInt], .same r (.int _ _)⟩
    · cases hy
  · rename_i sd hne hs hd
    split at hy
    · rename_i s
      cases hx
      simp only [Option.some.injEq, Prod.mk.injEq] at hy
      obtain ⟨rfl, rfl⟩ := hy
      exact ⟨.string s, w, by cases sd <;> simp [convert, run_underlying hs, run_underlying hd], .same r (.str _)⟩
    · cases hy
  · rename_i sd e hs hd
    split at hy
    · rename_i s
      cases hx
      split at hy
      · rename_i he
        simp only [Option.some.injEq, Prod.mk.injEq] at hy
        obtain ⟨rfl, rfl⟩ := hy
        have hge : (runesOf s s.size 0).length ≤ grownCap w (runesOf s s.size 0).length 0 e := grownCap_ge _ _ _ _
        generalize hcap : grownCap w (runesOf s s.size 0).length 0 e = cap at hge
        have hrun : (convert src dst (.string s)).run P w = .ok (.slice (some ⟨w.heap.size, 0, none⟩) (runesOf s s.size 0).length cap)
            (w.drew.alloc (.cells (((runesOf s s.size 0).map (Value.int .i32)).toArray ++ Array.replicate (cap - (runesOf s s.size 0).length) (.int .i32 0)) e)) := by
          cases sd <;> simp [convert, run_underlying hs, run_underlying hd, run_underlying he, Conv.stringToRunes, runesFrom_eq, Question.forced, newRow, ← hcap, grownCap]
        refine ⟨_, _, hrun, _, (evo_heap (w := w) (w' := w.drew) rfl rfl rfl rfl).trans (evo_alloc _ _), rel_alloc (rel_heap r (w' := w.drew) rfl rfl rfl rfl) (by simp) ?_, new_sl (w := w.drew) hge ?_ _ hge⟩
        · intro j c hj
          rw [List.getElem?_map] at hj
          simp only [Option.map_eq_some_iff] at hj
          obtain ⟨n, hn, rfl⟩ := hj
          have hlt := (List.getElem?_eq_some_iff.1 hn).1
          refine ⟨.int .i32 n, ?_, .int _ _⟩
          rw [Array.getElem?_append_left (by simpa using hlt)]
          simp [hn]
        · rw [rsz_new]; simp; omega
      · cases hy
    · cases hy
  · cases hy
end
end Go.Ab
namespace Go.Ab
section
variable {P : Program} {m : Mu} {h : Heap} {w : World}
theorem zeroCells_get {z : Array Value} {n q : Nat} (hq : q < n * z.size) : (Builtin.zeroCells z n)[q]? = z[q % z.size]? := by
  have hs : 0 < z.size := by
    rcases Nat.eq_zero_or_pos z.size with h | h
    · rw [h] at hq; omega
    · exact h
  have hm : q % z.size < z.size := Nat.mod_lt _ hs
  simp [Builtin.zeroCells, hq, hm]
theorem clear_ok (r : Rel m h w) {cfg : Cfg} {t ty : TypeId} {x : V} {xv : Value} {h' : Heap} (hx : R m h w x xv) (hy : clearV P cfg h t x = some h') :
    ∃ v w', (Builtin.clear_ #[t] ty #[xv]).run P w = .ok v w' ∧ Out m h w (.tup []) h' v w' := by
  have nothing : ∀ {a : Option Addr} {c : Nat}, h' = h → (∃ e, P.underlying t = some (.slice e)) → xv = .slice a 0 c → ∃ v w', (Builtin.clear_ #[t] ty #[xv]).run P w = .ok v w' ∧ Out m h w (.tup []) h' v w' := by
    rintro a c rfl ⟨e, hu⟩ rfl
    refine ⟨.tuple #[], w, ?_, .same r (.tup rfl fun i c v h => by simp at h)⟩
    cases a <;> simp [Builtin.clear_, run_underlying hu]
  unfold clearV at hy
  split at hy
  · rename_i e hu
    cases hy; cases hx
    exact nothing rfl ⟨_, hu⟩ rfl
  · rename_i e hu
    cases hy
    generalize hl : ([] : List (List V)) = l at hx
    cases hx with
    | lst0 a rc _ => exact nothing rfl ⟨_, hu⟩ rfl
    | lst rv hi hrc hk hc hf hr => subst hl; exact nothing rfl ⟨_, hu⟩ rfl
  · rename_i elem b off len cap k hu
    split at hy
    · rename_i hl
      subst hl
      cases hy; cases hx
      exact nothing rfl ⟨_, hu⟩ rfl
    · rename_i hl
      split at hy
      · rename_i s z hs hz
        split at hy
        · rename_i hc
          simp only [Bool.and_eq_true, decide_eq_true_eq, beq_iff_eq] at hc
          obtain ⟨⟨⟨rfl, hzl⟩, hs0⟩, hlf⟩ := hc
          obtain ⟨zv, hzr, hzo, _⟩ := run_zeroValue' hz w
          have hpz := zero_PW (m := m) (h := h) (w := w) hzo
          obtain ⟨cs, hb⟩ : ∃ cs, blockOf h b = some cs := by
            unfold storeCellsV at hy
            split at hy
            · rename_i cs hb; exact ⟨cs, hb⟩
            · cases hy
          obtain ⟨rb, rc, arr, T, hmb, rfl, _, _, _, _, _, _⟩ := hx.sl_at r hb
          have hzs : zv.cells.size = s := by rw [hpz.1, hzl]
          have hus : (Builtin.zeroCells zv.cells len).size = len * s := by rw [size_zeroCells, hzs]
          have hrr : ∀ (i : Nat) (c : V) (u : Value), (zerosFor (vcells z) len)[i]? = some c → (Builtin.zeroCells zv.cells len).toList[i]? = some u → R m h w c u := by
            intro i c u hc hu'
            rw [zerosFor_get hzl hs0] at hc
            split at hc
            · rename_i hlt
              simp only [Array.getElem?_toList] at hu'
              rw [zeroCells_get (by rw [hzs]; exact hlt), hzs] at hu'
              exact hpz.2 _ c u hc hu'
            · cases hc
          have hlen : (Builtin.zeroCells zv.cells len).toList.length = (zerosFor (vcells z) len).length := by
            rw [zerosFor_length, hzl]; simpa using hus
          have h1 : ∀ u ∈ (Builtin.zeroCells zv.cells len).toList, u.oneCell' = true := by
            refine all_one (m := m) (h := h) (w := w) (new := zerosFor (vcells z) len) ?_ hlen hrr
            rw [List.all_eq_true] at hlf ⊢
            intro c hc
            obtain ⟨i, hi, rfl⟩ := List.getElem_of_mem hc
            have h2 := List.getElem?_eq_getElem hi
            rw [zerosFor_get hzl hs0] at h2
            split at h2
            · exact hlf _ (List.mem_of_getElem? h2)
            · cases h2
          obtain ⟨w', hrun, e, r'⟩ := storeCells_ok (P := P) r hmb hb hy hlen hrr h1
          refine ⟨.tuple #[], w', ?_, m, e, r', .tup rfl fun i c v h => by simp at h⟩
          cases len with
          | zero => exact absurd rfl hl
          | succ len => simp [Builtin.clear_, run_underlying hu, hzr, hrun]
        · cases hy
      · cases hy
  · cases hy
end
end Go.Ab
namespace Go.Ab
open Go.Instr
def fnd : List (Int × Int) → Int → Nat → Option (Nat × Int)
  | [], _, _ => none
  | (a, v) :: r, x, i => if x == a then some (i, v) else fnd r x (i + 1)
theorem fnd_mget (x : Int) : ∀ (l : List (Int × Int)) (i : Nat), (fnd l x i).map (·.2) = mget l x
  | [], _ => rfl
  | (a, v) :: r, i => by
    simp only [fnd, mget]
    split
    · rfl
    · exact fnd_mget x r (i + 1)
theorem fnd_ge (x : Int) : ∀ (l : List (Int × Int)) (i j : Nat) (v : Int), fnd l x i = some (j, v) → i ≤ j
  | [], _, _, _, h => by simp [fnd] at h
  | (a, u) :: r, i, j, v, h => by
    simp only [fnd] at h
    split at h
    · cases h; exact Nat.le_refl _
    · have := fnd_ge x r (i + 1) j v h; omega
theorem findNow_ok {k e : IntKind} {x : Int} : ∀ (es : List MapEntry) (l : List (Int × Int)) (i : Nat), es.map (fun q => (q.key, q.val)) = l.map (fun q => (Value.int k q.1, Value.int e q.2)) →
    findNow (.int k) (.int k x) es i = some ((fnd l x i).map fun q => (q.1, Value.int e q.2))
  | [], [], i, _ => rfl
  | [], _ :: _, i, h => by simp at h
  | _ :: _, [], i, h => by simp at h
  | q :: es, (a, v) :: l, i, h => by
    simp only [List.map_cons, List.cons.injEq, Prod.mk.injEq] at h
    obtain ⟨⟨h1, h2⟩, h3⟩ := h
    simp only [findNow, h1, sameNow, if_true, fnd]
    by_cases hxa : x = a
    · subst hxa; simp [h2]
    · have e1 : (x == a) = false := by simpa using hxa
      simp only [e1, Bool.false_eq_true, if_false]
      exact findNow_ok es l (i + 1) h3
theorem mset_none {x y : Int} : ∀ (l : List (Int × Int)) (i : Nat), fnd l x i = none → mset l x y = l ++ [(x, y)]
  | [], _, _ => rfl
  | (a, v) :: l, i, h => by
    simp only [fnd] at h
    split at h
    · cases h
    · rename_i hxa
      simp only [mset, hxa, if_false, List.cons_append, Bool.false_eq_true]
      rw [mset_none l (i + 1) h]
theorem mset_some {k e : IntKind} {x y : Int} {b : Nat} : ∀ (es : List MapEntry) (l : List (Int × Int)) (i j : Nat) (v : Int), es.map (fun q => (q.key, q.val)) = l.map (fun q => (Value.int k q.1, Value.int e q.2)) → fnd l x i = some (i + j, v) →
    (es.modify j fun q => { q with key := Value.int k x, val := Value.int e y }).map (fun q => (q.key, q.val)) = (mset l x y).map (fun q => (Value.int k q.1, Value.int e q.2)) ∧ (es[j]?).map (·.key) = some (Value.int k x)
  | [], [], i, j, v, _, h => by simp [fnd] at h
  | [], _ :: _, i, j, v, h, _ => by simp at h
  | _ :: _, [], i, j, v, h, _ => by simp at h
  | q :: es, (a, u) :: l, i, j, v, h, hf => by
    simp only [List.map_cons, List.cons.injEq, Prod.mk.injEq] at h
    obtain ⟨⟨h1, h2⟩, h3⟩ := h
    simp only [fnd] at hf
    split at hf
    · rename_i hxa
      have hj : j = 0 := by simp at hf; omega
      subst hj
      have hxa' : x = a := by simpa using hxa
      subst hxa'
      simp [mset, h1, h3]
    · rename_i hxa
      have hge := fnd_ge x l (i + 1) (i + j) v hf
      obtain ⟨j', rfl⟩ : ∃ j', j = j' + 1 := ⟨j - 1, by omega⟩
      have ih := mset_some (b := b) (y := y) es l (i + 1) j' v h3 (by rw [hf]; congr 2; omega)
      simp only [mset, hxa, if_false, Bool.false_eq_true, List.modify_succ_cons, List.map_cons, h1, h2, List.getElem?_cons_succ]
      exact ⟨by rw [ih.1], ih.2⟩
section
variable {P : Program} {m : Mu} {h : Heap} {w : World}
theorem mapKinds_ok {t : TypeId} {k e : IntKind} (hk : mapKinds P t = some (k, e)) : ∃ a b, P.underlying t = some (.map a b) ∧ P.underlying a = some (.int k) ∧ P.underlying b = some (.int e) ∧ zeroOf P b = some (.int e 0) := by
  unfold mapKinds at hk
  split at hk
  · rename_i a b hu
    split at hk
    · rename_i k' e' e'' ha hb hz
      split at hk
      · rename_i he
        cases hk
        exact ⟨a, b, hu, ha, hb, by rw [hz, he]⟩
      · cases hk
    · cases hk
  · cases hk
theorem rel_alloc_map (r : Rel m h w) (k e : IntKind) : Rel (upd m h.length w.heap.size) (h ++ [some [.mp k e []]]) (w.alloc (.map #[] 0)) := by
  have ev := evo_alloc (m := m) (h := h) (w := w) [.mp k e []] (.map #[] 0)
  refine ⟨fun x b hl hb hz => ?_, fun b hb => Nat.lt_of_lt_of_le (r.zl b hb) ev.size, fun x y b hx hy hbx hby => ?_, fun x cs' b hx hb => ?_⟩
  · rcases live_append_new hl with h1 | rfl
    · simp only [upd, Nat.ne_of_lt h1, if_false] at hb
      exact r.zo x b ((live_append h1).1 hl) hb hz
    · simp only [upd, if_true, Option.some.injEq] at hb
      have := r.zl b hz
      omega
  · rcases live_append_new hx with h1 | rfl
    · rcases live_append_new hy with h2 | rfl
      · simp only [upd, Nat.ne_of_lt h1, Nat.ne_of_lt h2, if_false] at hbx hby
        exact r.inj x y b ((live_append h1).1 hx) ((live_append h2).1 hy) hbx hby
      · simp only [upd, Nat.ne_of_lt h1, if_false, if_true, Option.some.injEq] at hbx hby
        have := r.lt x b ((live_append h1).1 hx) hbx
        omega
    · rcases live_append_new hy with h2 | rfl
      · simp only [upd, Nat.ne_of_lt h2, if_false, if_true, Option.some.injEq] at hbx hby
        have := r.lt y b ((live_append h2).1 hy) hby
        omega
      · rfl
  · rcases live_append_new ⟨cs', hx⟩ with h1 | rfl
    · rw [List.getElem?_append_left h1] at hx
      simp only [upd, Nat.ne_of_lt h1, if_false] at hb
      exact (r.blk x cs' b hx hb).carry (pushed_old (r.lt x b ⟨cs', hx⟩ hb)) fun c v _ hrv => hrv.evo ev r.lt
    · simp only [upd, if_true, Option.some.injEq] at hb
      subst hb
      simp at hx
      subst hx
      exact .inr (.inl ⟨k, e, [], #[], 0, rfl, pushed_new, rfl⟩)
theorem rel_alloc_mapS (r : Rel m h w) : Rel (upd m h.length w.heap.size) (h ++ [some [.mq []]]) (w.alloc (.map #[] 0)) := by
  have ev := evo_alloc (m := m) (h := h) (w := w) [.mq []] (.map #[] 0)
  refine ⟨fun x b hl hb hz => ?_, fun b hb => Nat.lt_of_lt_of_le (r.zl b hb) ev.size, fun x y b hx hy hbx hby => ?_, fun x cs' b hx hb => ?_⟩
  · rcases live_append_new hl with h1 | rfl
    · simp only [upd, Nat.ne_of_lt h1, if_false] at hb
      exact r.zo x b ((live_append h1).1 hl) hb hz
    · simp only [upd, if_true, Option.some.injEq] at hb
      have := r.zl b hz
      omega
  · rcases live_append_new hx with h1 | rfl
    · rcases live_append_new hy with h2 | rfl
      · simp only [upd, Nat.ne_of_lt h1, Nat.ne_of_lt h2, if_false] at hbx hby
        exact r.inj x y b ((live_append h1).1 hx) ((live_append h2).1 hy) hbx hby
      · simp only [upd, Nat.ne_of_lt h1, if_false, if_true, Option.some.injEq] at hbx hby
        have := r.lt x b ((live_append h1).1 hx) hbx
        omega
    · rcases live_append_new hy with h2 | rfl
      · simp only [upd, Nat.ne_of_lt h2, if_false, if_true, Option.some.injEq] at hbx hby
        have := r.lt y b ((live_append h2).1 hy) hby
        omega
      · rfl
  · rcases live_append_new ⟨cs', hx⟩ with h1 | rfl
    · rw [List.getElem?_append_left h1] at hx
      simp only [upd, Nat.ne_of_lt h1, if_false] at hb
      exact (r.blk x cs' b hx hb).carry (pushed_old (r.lt x b ⟨cs', hx⟩ hb)) fun c v _ hrv => hrv.evo ev r.lt
    · simp only [upd, if_true, Option.some.injEq] at hb
      subst hb
      simp at hx
      subst hx
      exact .inr (.inr ⟨[], #[], 0, rfl, pushed_new, rfl, by simp⟩)
theorem makeMap_ok (r : Rel m h w) {t : TypeId} {x : V} {h' : Heap} (hy : makeMapV P h t = some (x, h')) : ∃ v w', (makeMap t none).run P w = .ok v w' ∧ Out m h w x h' v w' := by
  unfold makeMapV at hy
  split at hy
  · rename_i k e hk
    cases hy
    exact ⟨_, _, rfl, _, evo_alloc _ _, rel_alloc_map r k e, .mref (by simp) fun _ => by simp [upd]⟩
  · split at hy
    · cases hy
      exact ⟨_, _, rfl, _, evo_alloc _ _, rel_alloc_mapS r, .mref (by simp) fun _ => by simp [upd]⟩
    · split at hy
      · cases hy
        exact ⟨_, _, rfl, _, evo_alloc _ _, rel_alloc_mapS r, .mref (by simp) fun _ => by simp [upd]⟩
      · cases hy
theorem R.mref_at (r : Rel m h w) {x : Nat} {v : Value} {k e : IntKind} {l : List (Int × Int)} (hv : R m h w (.mref x) v) (hb : mapOf h x = some (k, e, l)) :
    ∃ b es clock, m x = some b ∧ v = .map (some b) ∧ w.heap[b]? = some (.map es clock) ∧ MapR k e l es := by
  have hc := live_of_mapOf hb
  cases hv with
  | mref hlt hv =>
    have hmb := hv ⟨_, hc⟩
    rcases r.blk x _ _ hc hmb with ⟨arr, T, ha, hl, hr⟩ | ⟨k', e', l', es, clock, heq, ha, hm⟩ | ⟨l', es, clock, heq, _⟩
    · obtain ⟨u, _, hu⟩ := hr 0 (.mp k e l) rfl
      cases hu
    · cases heq
      exact ⟨_, es, clock, hmb, rfl, ha, hm⟩
    · cases heq
theorem checkKey_succ (n : Nat) {em : Bool} {t : TypeId} {k : IntKind} {x : Int} (hu : P.underlying t = some (.int k)) : (checkKey em (n + 1) t (.int k x)).run P w = .ok () w := by
  simp only [checkKey, Sem.run_bind, run_underlying hu, Result.andThen_ok, Sem.run_pure]
theorem checkKey_int {em : Bool} {t : TypeId} {k : IntKind} {x : Int} (hu : P.underlying t = some (.int k)) : (checkKey em 10000 t (.int k x)).run P w = .ok () w := checkKey_succ 9999 hu
theorem getObj_map {r : Nat} {es : Array MapEntry} {clock : Nat} (hb : w.heap[r]? = some (.map es clock)) : (getObj r).run P w = .ok (.map es clock) w := by
  simp [getObj, Sem.run, hb]
theorem findKey_int {t : TypeId} {k e : IntKind} {x : Int} {es : Array MapEntry} {l : List (Int × Int)} (hu : P.underlying t = some (.int k)) (hm : MapR k e l es) :
    (findKey t (.int k x) es.toList).run P w = .ok ((fnd l x 0).map fun q => (q.1, Value.int e q.2)) w := by
  simp only [findKey, Sem.run_bind, run_underlying hu, Result.andThen_ok, findNow_ok es.toList l 0 hm, Sem.run_pure]
theorem ofVal_int {v : Value} {k : IntKind} {n : Int} (h : ofVal v = some (.int k n)) : v = .int k n := by
  unfold ofVal at h
  split at h
  · simp at h
  · split at h <;> simp at h
  · unfold ofLeaf at h
    split at h <;> simp at h
    obtain ⟨rfl, rfl⟩ := h
    rfl
theorem flatL_func {fn : Fn} {f c : List V} (hf : flatL (.func fn f c) = true) : f = [] ∧ c = [] := by
  unfold flatL at hf
  split at hf <;> simp_all
theorem leafOf_R {v : V} (hf : flatL v = true) : R m h w v (leafOf v) := by
  cases v with
  | func fn f c =>
    obtain ⟨rfl, rfl⟩ := flatL_func hf
    exact .func rfl (fun i c v h => by simp at h) rfl (fun i c v h => by simp at h)
  | nilf => exact .nilf
  | bool b => exact .bool _
  | int k n => exact .int _ _
  | _ => simp [flatL] at hf
theorem R_leafOf {v : V} {x : Value} (hf : flatL v = true) (hr : R m h w v x) : x = leafOf v := by
  cases v with
  | func fn f c =>
    obtain ⟨rfl, rfl⟩ := flatL_func hf
    cases hr with
    | func hl _ hl' _ =>
      rw [Array.eq_empty_of_size_eq_zero hl, Array.eq_empty_of_size_eq_zero hl']
      rfl
  | nilf => cases hr; rfl
  | bool b => cases hr; rfl
  | int k n => cases hr; rfl
  | _ => simp [flatL] at hf
theorem valOf_R {v : V} (hf : flatV v = true) : R m h w v (valOf v) := by
  cases v with
  | agg cs =>
    refine .agg (by simp) fun i c x hc hx => ?_
    simp only [List.getElem?_toArray, List.getElem?_map, hc, Option.map_some, Option.some.injEq] at hx
    subst hx
    exact leafOf_R (List.all_eq_true.1 hf c (List.mem_of_getElem? hc))
  | func fn f c => exact leafOf_R hf
  | nilf => exact .nilf
  | bool b => exact .bool _
  | int k n => exact .int _ _
  | _ => simp [flatV, flatL] at hf
theorem R_valOf {v : V} {x : Value} (hf : flatV v = true) (hr : R m h w v x) : x = valOf v := by
  cases v with
  | agg cs =>
    cases hr with
    | agg hl hr =>
      rename_i vs
      show Value.agg vs = Value.agg _
      congr 1
      refine Array.ext (by simpa using hl) fun i h1 h2 => ?_
      have hi : i < cs.length := by omega
      have := hr i cs[i] vs[i] (List.getElem?_eq_getElem hi) (Array.getElem?_eq_getElem h1)
      rw [R_leafOf (List.all_eq_true.1 hf _ (List.getElem_mem hi)) this]
      simp
  | func fn f c => exact R_leafOf hf hr
  | nilf => cases hr; rfl
  | bool b => cases hr; rfl
  | int k n => cases hr; rfl
  | _ => simp [flatV, flatL] at hf
theorem mapTys_ok {t a : TypeId} {fs : List Field} {z : V} (hk : mapTys P t = some (a, fs, z)) : ∃ b fields, P.underlying t = some (.map a b) ∧ P.underlying a = some (.struct fields) ∧ fields.toList = fs ∧ zeroOf P b = some z ∧ keyFields P 0 fs = true ∧ flatV z = true := by
  unfold mapTys at hk
  split at hk
  · rename_i a' b hu
    split at hk
    · rename_i fields z' ha hz
      split at hk
      · rename_i hc
        simp only [Bool.and_eq_true] at hc
        cases hk
        exact ⟨b, fields, hu, ha, rfl, hz, hc.1, hc.2⟩
      · cases hk
    · cases hk
  · cases hk
theorem findAsking_ok {a : TypeId} {key : V} {kv : Value} (hk : R m h w key kv) : ∀ (es : List MapEntry) (l : List (List V)) (i : Nat) (r : Option V), es.map (fun x => (x.key, x.val)) = l.map (fun e => (valOf (e.headD .no), valOf (e.getD 1 .no))) →
    (∀ e ∈ l, ∃ k v, e = [k, v] ∧ flatV k = true ∧ flatV v = true) → findS P a key l = some r → ∃ j, (findAsking a kv es i).run P w = .ok (r.map fun y => (j, valOf y)) w ∧ ∀ y, r = some y → flatV y = true
  | [], [], i, r, _, _, hf => by
    simp only [findS, Option.some.injEq] at hf
    subst hf
    exact ⟨0, by simp [findAsking], by simp⟩
  | [], _ :: _, _, _, he, _, _ => by simp at he
  | _ :: _, [], _, _, he, _, _ => by simp at he
  | q :: es, e :: l, i, r, he, hl, hf => by
    obtain ⟨k, v, rfl, h1, h2⟩ := hl e (List.mem_cons_self ..)
    simp only [List.map_cons, List.cons.injEq, Prod.mk.injEq, List.headD_cons, List.getD_cons_succ, List.getD_cons_zero] at he
    obtain ⟨⟨hq1, hq2⟩, he'⟩ := he
    simp only [findS] at hf
    split at hf
    · rename_i heq
      cases hf
      obtain ⟨hrun, _⟩ := eqV_run (P := P) (w := w) hk (valOf_R h1) heq
      refine ⟨i, ?_, fun y hy => by cases hy; exact h2⟩
      simp only [findAsking, Sem.run_bind, hq1, hrun, Result.andThen_ok, if_true, Sem.run_pure, hq2, Option.map_some]
    · rename_i heq
      obtain ⟨hrun, _⟩ := eqV_run (P := P) (w := w) hk (valOf_R h1) heq
      obtain ⟨j, hj, hfl⟩ := findAsking_ok hk es l (i + 1) r he' (fun e he => hl e (List.mem_cons_of_mem _ he)) hf
      refine ⟨j, ?_, hfl⟩
      simp only [findAsking, Sem.run_bind, hq1, hrun, Result.andThen_ok, Bool.false_eq_true, if_false]
      exact hj
    · cases hf
theorem findKey_S {a : TypeId} {fields : Array Field} {ks : List V} {vs : Array Value} {es : Array MapEntry} {l : List (List V)} {r : Option V} (hu : P.underlying a = some (.struct fields)) (hk : R m h w (.agg ks) (.agg vs)) (hm : MapS l es) (hf : findS P a (.agg ks) l = some r) :
    ∃ j, (findKey a (.agg vs) es.toList).run P w = .ok (r.map fun y => (j, valOf y)) w ∧ ∀ y, r = some y → flatV y = true := by
  obtain ⟨j, hj, hfl⟩ := findAsking_ok (P := P) hk es.toList l 0 r hm.1 hm.2 hf
  refine ⟨j, ?_, hfl⟩
  cases hes : es.toList with
  | nil =>
    rw [hes] at hj
    simp only [findKey, Sem.run_bind, run_underlying hu, Result.andThen_ok, findNow, Sem.run_pure]
    simpa [findAsking] using hj
  | cons q es' =>
    rw [hes] at hj
    have hn : findNow (.struct fields) (.agg vs) (q :: es') 0 = none := by simp [findNow, sameNow]
    simp only [findKey, Sem.run_bind, run_underlying hu, Result.andThen_ok, hn]
    exact hj
theorem checkKey_plain {n : Nat} {em : Bool} {t : TypeId} {x : Value} {T : TypeDesc} (hu : P.underlying t = some T) (hT : (∃ k, T = .int k) ∨ T = .bool) : (checkKey em (n + 1) t x).run P w = .ok () w := by
  rcases hT with ⟨k, rfl⟩ | rfl <;> simp only [checkKey, Sem.run_bind, run_underlying hu, Result.andThen_ok, Sem.run_pure]
theorem checkKey_struct' {n : Nat} {em : Bool} {a : TypeId} {fields : Array Field} {vs : Array Value} (hu : P.underlying a = some (.struct fields)) (hk : keyFields P 0 fields.toList = true) (hl : vs.size = fields.toList.length) : (checkKey em (n + 1 + 1) a (.agg vs)).run P w = .ok () w := by
  have key : ∀ (fs : List Field) (i : Nat), keyFields P i fs = true → i + fs.length ≤ vs.size →
      (forIn (m := Sem) fs PUnit.unit fun f _ => do
        if f.name ≠ "_" then checkKey em (n + 1) f.type (← Go.part f.type vs f.offset)
        pure (ForInStep.yield PUnit.unit)).run P w = .ok PUnit.unit w := by
    intro fs
    induction fs with
    | nil => intro i _ _; simp
    | cons f fs ih =>
      intro i hki hli
      simp only [keyFields, Bool.and_eq_true, decide_eq_true_eq] at hki
      obtain ⟨⟨hoff, hty⟩, hrest⟩ := hki
      simp only [List.length_cons] at hli
      obtain ⟨T, hT, hT2⟩ : ∃ T, P.underlying f.type = some T ∧ ((∃ k, T = .int k) ∨ T = .bool) := by
        split at hty
        · rename_i k hk'; exact ⟨_, hk', .inl ⟨k, rfl⟩⟩
        · rename_i hk'; exact ⟨_, hk', .inr rfl⟩
        · cases hty
      have hag : isAg P f.type = some false := by
        rcases hT2 with ⟨k, rfl⟩ | rfl <;> simp [isAg, hT]
      have hp : (Go.part f.type vs f.offset).run P w = .ok vs[i] w := by simp [Go.part, run_isAgg' hag, hoff, show i < vs.size by omega]
      rw [List.forIn_cons]
      simp only [Sem.run_bind]
      have hi := ih (i + 1) hrest (by omega)
      split
      · simp only [Sem.run_bind, hp, checkKey_plain (n := n) hT hT2, Result.andThen_ok, Sem.run_pure]
        exact hi
      · simp only [Sem.run_pure, Result.andThen_ok]
        exact hi
  unfold checkKey
  simp only [Sem.run_bind, run_underlying hu, Result.andThen_ok]
  have := key fields.toList 0 hk (by omega)
  rw [Array.forIn_toList] at this
  simp at this ⊢
  rw [this]
  rfl
theorem checkKey_struct {em : Bool} {a : TypeId} {fields : Array Field} {vs : Array Value} (hu : P.underlying a = some (.struct fields)) (hk : keyFields P 0 fields.toList = true) (hl : vs.size = fields.toList.length) : (checkKey em 10000 a (.agg vs)).run P w = .ok () w := checkKey_struct' (n := 9998) hu hk hl
theorem R.mref_atS (r : Rel m h w) {x : Nat} {v : Value} {l : List (List V)} (hv : R m h w (.mref x) v) (hb : mapSOf h x = some l) :
    ∃ b es clock, m x = some b ∧ v = .map (some b) ∧ w.heap[b]? = some (.map es clock) ∧ MapS l es := by
  have hc := live_of_mapSOf hb
  cases hv with
  | mref hlt hv =>
    have hmb := hv ⟨_, hc⟩
    rcases r.blk x _ _ hc hmb with ⟨arr, T, ha, hl, hr⟩ | ⟨k', e', l', es, clock, heq, ha, hm⟩ | ⟨l', es, clock, heq, ha, hm⟩
    · obtain ⟨u, _, hu⟩ := hr 0 (.mq l) rfl
      cases hu
    · cases heq
    · cases heq
      exact ⟨_, es, clock, hmb, rfl, ha, hm⟩
theorem lookupS_ok (r : Rel m h w) {t : TypeId} {x key : V} {xv kv : Value} {ok : Bool} {y : V} (hx : R m h w x xv) (hk : R m h w key kv) (hy : lookupS P h t x key ok = some y) : ∃ v, (lookup t xv kv ok).run P w = .ok v w ∧ R m h w y v := by
  unfold lookupS at hy
  split at hy
  · rename_i a fs z b ks hmk
    split at hy
    · rename_i l hmo
      split at hy
      · rename_i hc
        simp only [Bool.and_eq_true, decide_eq_true_eq] at hc
        obtain ⟨tb, fields, hu, hua, rfl, hz, hkf, hzf⟩ := mapTys_ok hmk
        obtain ⟨b', es, clock, hmb, rfl, ha, hm⟩ := R.mref_atS r hx hmo
        obtain ⟨zv, hzr, hzo, _⟩ := run_zeroValue' hz w
        have hzR : R m h w z zv := ofVal_R hzo
        cases hk with
        | agg hl hr =>
        rename_i vs
        have hkR : R m h w (.agg ks) (.agg vs) := .agg hl hr
        have hck := checkKey_struct (P := P) (w := w) (em := es.isEmpty) (vs := vs) hua hkf (by omega)
        have tup : ∀ a b : Value, ∀ p q : V, R m h w p a → R m h w q b → R m h w (.tup [p, q]) (.tuple #[a, b]) := fun a b p q hp hq => .tup rfl fun i c v hc hv => by
          match i, hc, hv with
          | 0, hc, hv => simp at hc hv; subst hc hv; exact hp
          | 1, hc, hv => simp at hc hv; subst hc hv; exact hq
          | i + 2, hc, _ => simp at hc
        split at hy
        · rename_i y' hf
          obtain ⟨j, hj, hfl⟩ := findKey_S (P := P) hua hkR hm hf
          cases hy
          have hyR : R m h w y' (valOf y') := valOf_R (hfl y' rfl)
          refine ⟨if ok then .tuple #[valOf y', .bool true] else valOf y', ?_, ?_⟩
          · simp only [lookup, Sem.run_bind, run_underlying hu, Result.andThen_ok, getObj_map ha, Sem.run_pure, hck, hj, Option.map_some]
          · cases ok
            · exact hyR
            · exact tup _ _ _ _ hyR (.bool _)
        · rename_i hf
          obtain ⟨j, hj, hfl⟩ := findKey_S (P := P) hua hkR hm hf
          cases hy
          refine ⟨if ok then .tuple #[zv, .bool false] else zv, ?_, ?_⟩
          · simp only [lookup, Sem.run_bind, run_underlying hu, Result.andThen_ok, getObj_map ha, Sem.run_pure, hck, hj, Option.map_none, hzr]
          · cases ok
            · exact hzR
            · exact tup _ _ _ _ hzR (.bool _)
        · cases hy
      · cases hy
    · cases hy
  · cases hy
theorem mapTyI_ok {t a : TypeId} {k : IntKind} {z : V} (hk : mapTyI P t = some (a, k, z)) : ∃ b, P.underlying t = some (.map a b) ∧ P.underlying a = some (.int k) ∧ zeroOf P b = some z ∧ flatV z = true := by
  unfold mapTyI at hk
  split at hk
  · rename_i a' b hu
    split at hk
    · rename_i k' z' ha hz
      split at hk
      · rename_i hc
        cases hk
        exact ⟨b, hu, ha, hz, hc⟩
      · cases hk
    · cases hk
  · cases hk
theorem findNowI_ok {k : IntKind} {x : Int} : ∀ (es : List MapEntry) (l : List (List V)) (i : Nat) (r : Option V), es.map (fun x => (x.key, x.val)) = l.map (fun e => (valOf (e.headD .no), valOf (e.getD 1 .no))) →
    (∀ e ∈ l, ∃ k v, e = [k, v] ∧ flatV k = true ∧ flatV v = true) → findI k x l = some r → ∃ j, findNow (.int k) (.int k x) es i = some (r.map fun y => (j, valOf y)) ∧ ∀ y, r = some y → flatV y = true
  | [], [], i, r, _, _, hf => by
    simp only [findI, Option.some.injEq] at hf
    subst hf
    exact ⟨0, by simp [findNow], by simp⟩
  | [], _ :: _, _, _, he, _, _ => by simp at he
  | _ :: _, [], _, _, he, _, _ => by simp at he
  | q :: es, e :: l, i, r, he, hl, hf => by
    obtain ⟨kk, v, rfl, h1, h2⟩ := hl e (List.mem_cons_self ..)
    simp only [List.map_cons, List.cons.injEq, Prod.mk.injEq, List.headD_cons, List.getD_cons_succ, List.getD_cons_zero] at he
    obtain ⟨⟨hq1, hq2⟩, he'⟩ := he
    cases kk with
    | int k' y =>
      simp only [findI] at hf
      split at hf
      · rename_i hk
        subst hk
        have hq1 : q.key = .int k' y := hq1
        split at hf
        · rename_i hxy
          subst hxy
          cases hf
          refine ⟨i, ?_, fun y hy => by cases hy; exact h2⟩
          simp [findNow, hq1, sameNow, hq2]
        · rename_i hxy
          obtain ⟨j, hj, hfl⟩ := findNowI_ok es l (i + 1) r he' (fun e he => hl e (List.mem_cons_of_mem _ he)) hf
          refine ⟨j, ?_, hfl⟩
          have e1 : (x == y) = false := by simpa using hxy
          simp only [findNow, hq1, sameNow, if_true, e1, Bool.false_eq_true, if_false]
          exact hj
      · cases hf
    | _ => simp [findI] at hf
theorem findKeyI {a : TypeId} {k : IntKind} {x : Int} {es : Array MapEntry} {l : List (List V)} {r : Option V} (hu : P.underlying a = some (.int k)) (hm : MapS l es) (hf : findI k x l = some r) :
    ∃ j, (findKey a (.int k x) es.toList).run P w = .ok (r.map fun y => (j, valOf y)) w ∧ ∀ y, r = some y → flatV y = true := by
  obtain ⟨j, hj, hfl⟩ := findNowI_ok es.toList l 0 r hm.1 hm.2 hf
  exact ⟨j, by simp only [findKey, Sem.run_bind, run_underlying hu, Result.andThen_ok, hj, Sem.run_pure], hfl⟩
theorem lookupI_ok (r : Rel m h w) {t : TypeId} {x : V} {k1 : IntKind} {q : Int} {xv : Value} {ok : Bool} {y : V} (hx : R m h w x xv) (hy : lookupI P h t x k1 q ok = some y) : ∃ v, (lookup t xv (.int k1 q) ok).run P w = .ok v w ∧ R m h w y v := by
  unfold lookupI at hy
  split at hy
  · rename_i a k z b hmk
    split at hy
    · rename_i l hmo
      split at hy
      · rename_i hc
        subst hc
        obtain ⟨tb, hu, hua, hz, hzf⟩ := mapTyI_ok hmk
        obtain ⟨b', es, clock, hmb, rfl, ha, hm⟩ := R.mref_atS r hx hmo
        obtain ⟨zv, hzr, hzo, _⟩ := run_zeroValue' hz w
        have hzR : R m h w z zv := ofVal_R hzo
        have tup : ∀ a b : Value, ∀ p q : V, R m h w p a → R m h w q b → R m h w (.tup [p, q]) (.tuple #[a, b]) := fun a b p q hp hq => .tup rfl fun i c v hc hv => by
          match i, hc, hv with
          | 0, hc, hv => simp at hc hv; subst hc hv; exact hp
          | 1, hc, hv => simp at hc hv; subst hc hv; exact hq
          | i + 2, hc, _ => simp at hc
        split at hy
        · rename_i y' hf
          obtain ⟨j, hj, hfl⟩ := findKeyI (P := P) (w := w) hua hm hf
          cases hy
          have hyR : R m h w y' (valOf y') := valOf_R (hfl y' rfl)
          refine ⟨if ok then .tuple #[valOf y', .bool true] else valOf y', ?_, ?_⟩
          · simp only [lookup, Sem.run_bind, run_underlying hu, Result.andThen_ok, getObj_map ha, Sem.run_pure, checkKey_int hua, hj, Option.map_some]
          · cases ok
            · exact hyR
            · exact tup _ _ _ _ hyR (.bool _)
        · rename_i hf
          obtain ⟨j, hj, hfl⟩ := findKeyI (P := P) (w := w) hua hm hf
          cases hy
          refine ⟨if ok then .tuple #[zv, .bool false] else zv, ?_, ?_⟩
          · simp only [lookup, Sem.run_bind, run_underlying hu, Result.andThen_ok, getObj_map ha, Sem.run_pure, checkKey_int hua, hj, Option.map_none, hzr]
          · cases ok
            · exact hzR
            · exact tup _ _ _ _ hzR (.bool _)
        · cases hy
      · cases hy
    · cases hy
  · cases hy
theorem lookup_ok (r : Rel m h w) {t : TypeId} {x key : V} {xv kv : Value} {ok : Bool} {y : V} (hx : R m h w x xv) (hk : R m h w key kv) (hy : lookupV P h t x key ok = some y) : ∃ v, (lookup t xv kv ok).run P w = .ok v w ∧ R m h w y v := by
  unfold lookupV at hy
  split at hy
  · rename_i k e b k1 q hmk
    split at hy
    · rename_i k2 e2 l hmo
      split at hy
      · rename_i hc
        simp only [Bool.and_eq_true, decide_eq_true_eq] at hc
        obtain ⟨⟨rfl, rfl⟩, rfl⟩ := hc
        obtain ⟨b', es, clock, hmb, rfl, ha, hm⟩ := R.mref_at r hx hmo
        cases hk
        obtain ⟨ta, tb, hu, hua, hub, hz⟩ := mapKinds_ok hmk
        obtain ⟨zv, hzr, hzo, _⟩ := run_zeroValue' hz w
        obtain rfl := ofVal_int hzo
        have hg := fnd_mget q l 0
        have hrun : ∀ res, fnd l q 0 = res → (lookup t (.map (some b')) (.int k q) ok).run P w = .ok (match res with
            | some p => if ok then .tuple #[.int e p.2, .bool true] else .int e p.2
            | none => if ok then .tuple #[.int e 0, .bool false] else .int e 0) w := by
          intro res hres
          simp only [lookup, Sem.run_bind, run_underlying hu, Result.andThen_ok, getObj_map ha, Sem.run_pure, checkKey_int hua, findKey_int hua hm, hres]
          cases res with
          | none => simp [hzr]
          | some p => simp
        have tup : ∀ a b : Value, ∀ p q : V, R m h w p a → R m h w q b → R m h w (.tup [p, q]) (.tuple #[a, b]) := fun a b p q hp hq => .tup rfl fun i c v hc hv => by
          match i, hc, hv with
          | 0, hc, hv => simp at hc hv; subst hc hv; exact hp
          | 1, hc, hv => simp at hc hv; subst hc hv; exact hq
          | i + 2, hc, _ => simp at hc
        cases hf : fnd l q 0 with
        | none =>
          rw [hf] at hg
          simp only [Option.map_none] at hg
          rw [← hg] at hy
          simp only [Option.some.injEq] at hy
          refine ⟨_, hrun none hf, ?_⟩
          cases ok <;> simp only [if_true, Bool.false_eq_true, if_false] at hy ⊢ <;> subst hy
          · exact .int _ _
          · exact tup _ _ _ _ (.int _ _) (.bool _)
        | some p =>
          rw [hf] at hg
          simp only [Option.map_some] at hg
          rw [← hg] at hy
          simp only [Option.some.injEq] at hy
          refine ⟨_, hrun (some p) hf, ?_⟩
          cases ok <;> simp only [if_true, Bool.false_eq_true, if_false] at hy ⊢ <;> subst hy
          · exact .int _ _
          · exact tup _ _ _ _ (.int _ _) (.bool _)
      · cases hy
    · cases hy
  · cases hk
    exact lookupI_ok r hx hy
  · exact lookupS_ok r hx hk hy
  · cases hy
theorem map_set (r : Rel m h w) {x b : Nat} {k e : IntKind} {l l' : List (Int × Int)} {es es' : Array MapEntry} {clock clock' : Nat} (hx : h[x]? = some (some [.mp k e l])) (hb : m x = some b) (ha : w.heap[b]? = some (.map es clock)) (hm : MapR k e l' es') :
    Evo m h w m (h.set x (some [.mp k e l'])) { w with heap := w.heap.setIfInBounds b (.map es' clock') } ∧ Rel m (h.set x (some [.mp k e l'])) { w with heap := w.heap.setIfInBounds b (.map es' clock') } := by
  have hlx : live h x := ⟨_, hx⟩
  have hother : ∀ c, c ≠ b → (w.heap.setIfInBounds b (.map es' clock'))[c]? = w.heap[c]? := fun c hc => Array.getElem?_setIfInBounds_ne (fun e => hc e.symm)
  have hlt : b < w.heap.size := r.lt x b hlx hb
  have ev : Evo m h w m (h.set x (some [.mp k e l'])) { w with heap := w.heap.setIfInBounds b (.map es' clock') } := {
    zeq := rfl
    len := by simp
    keep := fun y _ hl => ⟨(live_set hlx).1 hl, rfl⟩
    own := fun y c hl hc => .inl ⟨y, (live_set hlx).1 hl, hc⟩
    frame := fun c _ hn => hother c fun hcb => hn x hlx (hcb ▸ hb)
    size := by simp
    rs := fun c _ => by
      by_cases hcb : c = b
      · subst hcb; simp [rsz, ha]
      · rw [rsz_of_block (w := w) (w' := { w with heap := w.heap.setIfInBounds b (.map es' clock') }) (hother c hcb)]; exact Nat.le_refl _
    os := rfl
    tape := rfl
    output := rfl }
  refine ⟨ev, fun y c hy hc => r.zo y c ((live_set hlx).1 hy) hc, fun c hc => Nat.lt_of_lt_of_le (r.zl c hc) ev.size, fun y z c hy hz hcy hcz => r.inj y z c ((live_set hlx).1 hy) ((live_set hlx).1 hz) hcy hcz, fun y cs' c hy hc => ?_⟩
  by_cases hxy : x = y
  · subst hxy
    rw [List.getElem?_set_self (live_lt hlx)] at hy
    cases hy
    rw [hb] at hc
    cases hc
    exact .inr (.inl ⟨k, e, l', es', clock', rfl, by simp [hlt], hm⟩)
  · rw [List.getElem?_set_ne hxy] at hy
    have hcb : c ≠ b := fun e => hxy (r.inj x y b hlx ⟨cs', hy⟩ hb (e ▸ hc))
    exact (r.blk y cs' c hy hc).carry (hother c hcb) fun d v _ hrv => hrv.evo ev r.lt
theorem map_setS (r : Rel m h w) {x b : Nat} {l l' : List (List V)} {es es' : Array MapEntry} {clock clock' : Nat} (hx : h[x]? = some (some [.mq l])) (hb : m x = some b) (ha : w.heap[b]? = some (.map es clock)) (hm : MapS l' es') :
    Evo m h w m (h.set x (some [.mq l'])) { w with heap := w.heap.setIfInBounds b (.map es' clock') } ∧ Rel m (h.set x (some [.mq l'])) { w with heap := w.heap.setIfInBounds b (.map es' clock') } := by
  have hlx : live h x := ⟨_, hx⟩
  have hother : ∀ c, c ≠ b → (w.heap.setIfInBounds b (.map es' clock'))[c]? = w.heap[c]? := fun c hc => Array.getElem?_setIfInBounds_ne (fun e => hc e.symm)
  have hlt : b < w.heap.size := r.lt x b hlx hb
  have ev : Evo m h w m (h.set x (some [.mq l'])) { w with heap := w.heap.setIfInBounds b (.map es' clock') } := {
    zeq := rfl
    len := by simp
    keep := fun y _ hl => ⟨(live_set hlx).1 hl, rfl⟩
    own := fun y c hl hc => .inl ⟨y, (live_set hlx).1 hl, hc⟩
    frame := fun c _ hn => hother c fun hcb => hn x hlx (hcb ▸ hb)
    size := by simp
    rs := fun c _ => by
      by_cases hcb : c = b
      · subst hcb; simp [rsz, ha]
      · rw [rsz_of_block (w := w) (w' := { w with heap := w.heap.setIfInBounds b (.map es' clock') }) (hother c hcb)]; exact Nat.le_refl _
    os := rfl
    tape := rfl
    output := rfl }
  refine ⟨ev, fun y c hy hc => r.zo y c ((live_set hlx).1 hy) hc, fun c hc => Nat.lt_of_lt_of_le (r.zl c hc) ev.size, fun y z c hy hz hcy hcz => r.inj y z c ((live_set hlx).1 hy) ((live_set hlx).1 hz) hcy hcz, fun y cs' c hy hc => ?_⟩
  by_cases hxy : x = y
  · subst hxy
    rw [List.getElem?_set_self (live_lt hlx)] at hy
    cases hy
    rw [hb] at hc
    cases hc
    exact .inr (.inr ⟨l', es', clock', rfl, by simp [hlt], hm⟩)
  · rw [List.getElem?_set_ne hxy] at hy
    have hcb : c ≠ b := fun e => hxy (r.inj x y b hlx ⟨cs', hy⟩ hb (e ▸ hc))
    exact (r.blk y cs' c hy hc).carry (hother c hcb) fun d v _ hrv => hrv.evo ev r.lt
theorem setObj_map {r : Nat} {es : Array MapEntry} {clock : Nat} (o : Obj) (hb : w.heap[r]? = some (.map es clock)) : (setObj r o).run P w = .ok () { w with heap := w.heap.setIfInBounds r o } := MapKept.run_setObj_map o hb
theorem mapUpdateS_ok (r : Rel m h w) {cfg : Cfg} {t : TypeId} {a b c : V} {av bv cv : Value} {h' : Heap} (ha : R m h w a av) (hb : R m h w b bv) (hc : R m h w c cv) (hy : mapUpdateS P cfg h t a b c = some h') :
    ∃ w', (mapUpdate t av bv cv).run P w = .ok () w' ∧ Evo m h w m h' w' ∧ Rel m h' w' := by
  unfold mapUpdateS at hy
  split at hy
  · rename_i ty fs z x ks hmk
    split at hy
    · rename_i l hmo
      split at hy
      · rename_i hcc
        simp only [Bool.and_eq_true, decide_eq_true_eq] at hcc
        obtain ⟨⟨⟨hfk, hfv⟩, hlen⟩, _⟩ := hcc
        split at hy
        · rename_i hf
          cases hy
          obtain ⟨tb, fields, hu, hua, rfl, hz, hkf, hzf⟩ := mapTys_ok hmk
          obtain ⟨b', es, clock, hmb, rfl, hw, hm⟩ := R.mref_atS r ha hmo
          have hkv := R_valOf hfk hb
          have hcv := R_valOf hfv hc
          cases hb with
          | agg hl hr =>
          rename_i vs
          have hkR : R m h w (.agg ks) (.agg vs) := .agg hl hr
          have hck := checkKey_struct (P := P) (w := w) (em := false) (vs := vs) hua hkf (by omega)
          obtain ⟨j, hj, _⟩ := findKey_S (P := P) hua hkR hm hf
          have hm' : MapS (l ++ [[.agg ks, c]]) (es.push { key := .agg vs, val := cv, born := clock }) := by
            refine ⟨?_, fun e he => ?_⟩
            · rw [Array.toList_push, List.map_append, List.map_append, hm.1]
              simp only [List.map_cons, List.map_nil, List.headD_cons, List.getD_cons_succ, List.getD_cons_zero, hkv, hcv]
            · rcases List.mem_append.1 he with he | he
              · exact hm.2 e he
              · rw [List.mem_singleton] at he
                exact ⟨_, _, he, hfk, hfv⟩
          obtain ⟨ev, rl⟩ := map_setS (clock' := clock + 1) r (live_of_mapSOf hmo) hmb hw hm'
          refine ⟨_, ?_, ev, rl⟩
          simp only [mapUpdate, Sem.run_bind, run_underlying hu, Result.andThen_ok, getObj_map hw, hck, hj, Option.map_none, setObj_map _ hw]
        · cases hy
      · cases hy
    · cases hy
  · cases hy
theorem mapUpdateI_ok (r : Rel m h w) {cfg : Cfg} {t : TypeId} {a c : V} {k1 : IntKind} {q : Int} {av cv : Value} {h' : Heap} (ha : R m h w a av) (hc : R m h w c cv) (hy : mapUpdateI P cfg h t a k1 q c = some h') :
    ∃ w', (mapUpdate t av (.int k1 q) cv).run P w = .ok () w' ∧ Evo m h w m h' w' ∧ Rel m h' w' := by
  unfold mapUpdateI at hy
  split at hy
  · rename_i ty k z x hmk
    split at hy
    · rename_i l hmo
      split at hy
      · rename_i hcc
        simp only [Bool.and_eq_true, decide_eq_true_eq] at hcc
        obtain ⟨⟨rfl, hfv⟩, _⟩ := hcc
        split at hy
        · rename_i hf
          cases hy
          obtain ⟨tb, hu, hua, hz, hzf⟩ := mapTyI_ok hmk
          obtain ⟨b', es, clock, hmb, rfl, hw, hm⟩ := R.mref_atS r ha hmo
          have hcv := R_valOf hfv hc
          obtain ⟨j, hj, _⟩ := findKeyI (P := P) (w := w) hua hm hf
          have hm' : MapS (l ++ [[.int k q, c]]) (es.push { key := .int k q, val := cv, born := clock }) := by
            refine ⟨?_, fun e he => ?_⟩
            · rw [Array.toList_push, List.map_append, List.map_append, hm.1]
              simp only [List.map_cons, List.map_nil, List.headD_cons, List.getD_cons_succ, List.getD_cons_zero, hcv]
              rfl
            · rcases List.mem_append.1 he with he | he
              · exact hm.2 e he
              · rw [List.mem_singleton] at he
                exact ⟨_, _, he, rfl, hfv⟩
          obtain ⟨ev, rl⟩ := map_setS (clock' := clock + 1) r (live_of_mapSOf hmo) hmb hw hm'
          refine ⟨_, ?_, ev, rl⟩
          simp only [mapUpdate, Sem.run_bind, run_underlying hu, Result.andThen_ok, getObj_map hw, checkKey_int hua, hj, Option.map_none, setObj_map _ hw]
        · cases hy
      · cases hy
    · cases hy
  · cases hy
theorem mapUpdate_ok (r : Rel m h w) {cfg : Cfg} {t : TypeId} {a b c : V} {av bv cv : Value} {h' : Heap} (ha : R m h w a av) (hb : R m h w b bv) (hc : R m h w c cv) (hy : mapUpdateV P cfg h t a b c = some h') :
    ∃ w', (mapUpdate t av bv cv).run P w = .ok () w' ∧ Evo m h w m h' w' ∧ Rel m h' w' := by
  unfold mapUpdateV at hy
  split at hy
  · rename_i k e x k1 q e1 y hmk
    split at hy
    · rename_i k2 e2 l hmo
      split at hy
      · rename_i hcc
        simp only [Bool.and_eq_true, decide_eq_true_eq] at hcc
        obtain ⟨⟨⟨⟨rfl, rfl⟩, rfl⟩, rfl⟩, _⟩ := hcc
        cases hy
        obtain ⟨b', es, clock, hmb, rfl, hw, hm⟩ := R.mref_at r ha hmo
        cases hb; cases hc
        obtain ⟨ta, tb, hu, hua, hub, hz⟩ := mapKinds_ok hmk
        have hlive := live_of_mapOf hmo
        cases hf : fnd l q 0 with
        | none =>
          have hm' : MapR k e (mset l q y) (es.push { key := .int k q, val := .int e y, born := clock }) := by
            rw [mset_none l 0 hf]
            unfold MapR at hm ⊢
            simp [hm]
          obtain ⟨ev, rl⟩ := map_set (clock' := clock + 1) r hlive hmb hw hm'
          refine ⟨_, ?_, ev, rl⟩
          simp only [mapUpdate, Sem.run_bind, run_underlying hu, Result.andThen_ok, getObj_map hw, checkKey_int hua, findKey_int hua hm, hf, Option.map_none, setObj_map _ hw]
        | some p =>
          obtain ⟨j, v⟩ := p
          obtain ⟨h1, h2⟩ := mset_some (b := 0) (y := y) es.toList l 0 j v hm (by rw [hf, Nat.zero_add])
          have hm' : MapR k e (mset l q y) (es.modify j fun x => { x with key := .int k q, val := .int e y }) := by
            unfold MapR
            rw [← h1]
            simp
          obtain ⟨ev, rl⟩ := map_set (clock' := clock) r hlive hmb hw hm'
          refine ⟨_, ?_, ev, rl⟩
          have hk : ((es[j]?).map (·.key)).getD (.int k q) = .int k q := by
            rw [Array.getElem?_toList] at h2
            rw [h2]; rfl
          have hbits : sameBits 10000 (.int k q) (.int k q) = true := by simp [sameBits]
          simp only [mapUpdate, Sem.run_bind, run_underlying hu, Result.andThen_ok, getObj_map hw, checkKey_int hua, findKey_int hua hm, hf, Option.map_some, hk, keyThatStays, hbits, if_true, Sem.run_pure, setObj_map _ hw]
      · cases hy
    · cases hy
  · cases hb
    exact mapUpdateI_ok r ha hc hy
  · exact mapUpdateS_ok r ha hb hc hy
  · cases hy
end
end Go.Ab
