/- New blocks, stores, and what they keep. -/
import Derived.Test.YtcedojbifnangaaAbOps5
namespace Go.Ab

section
variable {P : Program} {m : Mu} {h : Heap} {w : World}

def upd (m : Mu) (x b : Nat) : Mu := { m with f := fun y => if y = x then some b else m y }

theorem live_append {h : Heap} {o : Option (List V)} {x : Nat} (hlt : x < h.length) : live (h ++ [o]) x ↔ live h x := by
  simp [live, List.getElem?_append_left hlt]

theorem live_append_new {h : Heap} {o : Option (List V)} {x : Nat} (hl : live (h ++ [o]) x) : x < h.length ∨ x = h.length := by
  have := live_lt hl
  simp at this
  omega

theorem pushed_old {o : Obj} {b : Nat} (hb : b < w.heap.size) : (w.alloc o).heap[b]? = w.heap[b]? := heap_alloc_old w o b hb

theorem pushed_new {o : Obj} : (w.alloc o).heap[w.heap.size]? = some o := heap_alloc_new w o

/-- A new block on both sides. -/
theorem evo_alloc (cs : List V) (o : Obj) : Evo m h w (upd m h.length w.heap.size) (h ++ [some cs]) (w.alloc o) where
  zeq := rfl
  len := by simp
  keep := fun x hx hl => ⟨(live_append hx).1 hl, by simp [upd, Nat.ne_of_lt hx]⟩
  own := fun x b hl hb => by
    rcases live_append_new hl with hx | rfl
    · refine .inl ⟨x, (live_append hx).1 hl, ?_⟩
      simpa [upd, Nat.ne_of_lt hx] using hb
    · simp [upd] at hb; exact .inr (by omega)
  frame := fun b hb _ => pushed_old hb
  size := by simp
  rs := fun b hb => by rw [rsz_of_block (pushed_old hb)]; exact Nat.le_refl _
  os := rfl
  tape := rfl
  output := rfl

theorem rel_alloc (r : Rel m h w) {cs : List V} {arr : Array Value} {T : TypeId} (hl : cs.length ≤ arr.size) (hr : ∀ (i : Nat) (c : V), cs[i]? = some c → ∃ v, arr[i]? = some v ∧ R m h w c v) :
    Rel (upd m h.length w.heap.size) (h ++ [some cs]) (w.alloc (.cells arr T (0, 0))) := by
  have e := evo_alloc (m := m) (h := h) (w := w) cs (.cells arr T (0, 0))
  refine ⟨fun x b hl hb hz => ?_, fun b hb => Nat.lt_of_lt_of_le (r.zl b hb) e.size, fun x y b hx hy hbx hby => ?_, fun x cs' b hx hb => ?_⟩
  · rcases live_append_new hl with h1 | rfl
    · simp only [upd, Nat.ne_of_lt h1, if_false] at hb
      exact r.zo x b ((live_append h1).1 hl) hb hz
    · simp only [upd, if_true, Option.some.injEq] at hb
      have := r.zl b hz
      omega
  · rcases live_append_new hx with h1 | rfl
    · rcases live_append_new hy with h2 | rfl
      · simp only [upd, Nat.ne_of_lt h1, Nat.ne_of_lt h2, if_false] at hbx hby
        exact r.inj x y b ((live_append h1).1 hx) ((live_append h2).1 hy) hbx hby
      · simp only [upd, Nat.ne_of_lt h1, if_false, if_true, Option.some.injEq] at hbx hby
        have := r.lt x b ((live_append h1).1 hx) hbx
        omega
    · rcases live_append_new hy with h2 | rfl
      · simp only [upd, Nat.ne_of_lt h2, if_false, if_true, Option.some.injEq] at hbx hby
        have := r.lt y b ((live_append h2).1 hy) hby
        omega
      · rfl
  · rcases live_append_new ⟨cs', hx⟩ with h1 | rfl
    · rw [List.getElem?_append_left h1] at hx
      simp only [upd, Nat.ne_of_lt h1, if_false] at hb
      exact (r.blk x cs' b hx hb).carry (pushed_old (r.lt x b ⟨cs', hx⟩ hb)) fun c v _ hrv => hrv.evo e r.lt
    · simp only [upd, if_true, Option.some.injEq] at hb
      subst hb
      simp at hx
      subst hx
      refine .inl ⟨arr, T, pushed_new, hl, fun i c hc => ?_⟩
      obtain ⟨v, hv, hrv⟩ := hr i c hc
      exact ⟨v, hv, hrv.evo e r.lt⟩

/-- A pointer to the new block. -/
theorem new_ptr {cs : List V} {w' : World} : R (upd m h.length w.heap.size) (h ++ [some cs]) w' (.ptr h.length 0) (.pointer (some ⟨w.heap.size, 0, none⟩)) :=
  .ptr (by simp) fun _ => ⟨w.heap.size, by simp [upd], rfl⟩

theorem live_set {h : Heap} {x y : Nat} {cs : List V} (hx : live h x) : live (h.set x (some cs)) y ↔ live h y := by
  by_cases hxy : x = y
  · subst hxy
    exact ⟨fun _ => hx, fun _ => ⟨cs, by simp [List.getElem?_set_self (live_lt hx)]⟩⟩
  · simp [live, List.getElem?_set_ne hxy]

/-- A block's contents anew, on both sides. -/
theorem evo_set {x b : Nat} {cs : List V} (hx : live h x) (hb : m x = some b) {arr arr' : Array Value} {T : TypeId} (ha : w.heap[b]? = some (.cells arr T (0, 0))) (hsz : arr.size ≤ arr'.size) :
    Evo m h w m (h.set x (some cs)) (w.setRow b arr') where
  zeq := rfl
  len := by simp
  keep := fun y _ hl => ⟨(live_set hx).1 hl, rfl⟩
  own := fun y c hl hc => .inl ⟨y, (live_set hx).1 hl, hc⟩
  frame := fun c _ hn => setRow_other w b c arr' fun hcb => hn x hx (hcb ▸ hb)
  size := by simp
  rs := fun c _ => by
    by_cases hcb : c = b
    · subst hcb; simp only [rsz, ha, setRow_heap w c arr arr' T (0, 0) ha]; exact hsz
    · rw [rsz_of_block (setRow_other w b c arr' hcb)]; exact Nat.le_refl _
  os := rfl
  tape := rfl
  output := rfl

theorem rel_set (r : Rel m h w) {x b : Nat} {cs : List V} (hx : live h x) (hb : m x = some b) {arr arr' : Array Value} {T : TypeId} (ha : w.heap[b]? = some (.cells arr T (0, 0))) (hsz : arr.size ≤ arr'.size)
    (hl : cs.length ≤ arr'.size) (hr : ∀ (i : Nat) (c : V), cs[i]? = some c → ∃ v, arr'[i]? = some v ∧ R m h w c v) : Rel m (h.set x (some cs)) (w.setRow b arr') := by
  have e := evo_set (cs := cs) hx hb ha hsz
  refine ⟨fun y c hy hc => r.zo y c ((live_set hx).1 hy) hc, fun c hc => Nat.lt_of_lt_of_le (r.zl c hc) e.size, fun y z c hy hz hcy hcz => r.inj y z c ((live_set hx).1 hy) ((live_set hx).1 hz) hcy hcz, fun y cs' c hy hc => ?_⟩
  by_cases hxy : x = y
  · subst hxy
    rw [List.getElem?_set_self (live_lt hx)] at hy
    cases hy
    rw [hb] at hc
    cases hc
    refine .inl ⟨arr', T, setRow_heap w b arr arr' T (0, 0) ha, hl, fun i c hc => ?_⟩
    obtain ⟨v, hv, hrv⟩ := hr i c hc
    exact ⟨v, hv, hrv.evo e r.lt⟩
  · rw [List.getElem?_set_ne hxy] at hy
    have hcb : c ≠ b := fun e => hxy (r.inj x y b hx ⟨cs', hy⟩ hb (e ▸ hc))
    exact (r.blk y cs' c hy hc).carry (setRow_other w b c arr' hcb) fun d v _ hrv => hrv.evo e r.lt

/-- Cells stored from an offset on. -/
theorem storeCells_ok (r : Rel m h w) {cfg : Cfg} {x off b : Nat} {vs : List V} {us : List Value} {h' : Heap} {cs : List V} (hb : m x = some b) (hcs : blockOf h x = some cs)
    (hs : storeCellsV cfg h x off vs = some h') (hlen : us.length = vs.length) (hr : ∀ (i : Nat) (c : V) (u : Value), vs[i]? = some c → us[i]? = some u → R m h w c u) (h1 : ∀ u ∈ us, u.oneCell' = true) :
    ∃ w', (storeCells ⟨b, off, none⟩ us).run P w = .ok () w' ∧ Evo m h w m h' w' ∧ Rel m h' w' := by
  unfold storeCellsV at hs
  rw [hcs] at hs
  simp only at hs
  split at hs
  · rename_i hc
    simp only [Bool.and_eq_true, decide_eq_true_eq] at hc
    obtain ⟨⟨hle, _⟩, _⟩ := hc
    cases hs
    have hc := live_of_blockOf hcs
    obtain ⟨arr, T, ha, hl, hra⟩ := (r.blk x cs b hc hb).cells (notMap_of_blockOf hcs)
    have hst := run_storeCells_at P b off T us 0 arr w ha (by omega) h1
    simp only [Nat.add_zero] at hst
    have hsz : arr.size ≤ (arr.toList.take off ++ us ++ arr.toList.drop (off + us.length)).toArray.size := by simp; omega
    refine ⟨_, hst, evo_set ⟨cs, hc⟩ hb ha hsz, rel_set r ⟨cs, hc⟩ hb ha hsz (by rw [putAt_length]; exact Nat.le_trans hl hsz) ?_⟩
    intro i c hi
    rw [putAt_get cs off vs i hle] at hi
    have hget : (arr.toList.take off ++ us ++ arr.toList.drop (off + us.length)).toArray[i]? = if off ≤ i ∧ i < off + us.length then us[i - off]? else arr[i]? := by
      simp only [List.getElem?_toArray]
      have htl : (arr.toList.take off).length = off := by simp; omega
      by_cases hio : i < off
      · rw [List.append_assoc, List.getElem?_append_left (by omega), if_neg (by omega)]
        simp [hio]
      · by_cases hiu : i < off + us.length
        · rw [if_pos (by omega), List.append_assoc, List.getElem?_append_right (by omega), htl, List.getElem?_append_left (by omega)]
        · rw [if_neg (by omega), List.getElem?_append_right (by simp; omega), List.getElem?_drop]
          simp only [List.length_append, htl]
          rw [show off + us.length + (i - (off + us.length)) = i by omega]
          simp
    rw [hget]
    by_cases hin : off ≤ i ∧ i < off + vs.length
    · rw [if_pos hin] at hi
      rw [if_pos (by omega)]
      have hlt : i - off < us.length := by omega
      exact ⟨us[i - off], List.getElem?_eq_getElem hlt, hr _ c _ hi (List.getElem?_eq_getElem hlt)⟩
    · rw [if_neg hin] at hi
      rw [if_neg (by omega)]
      exact hra i c hi
  · cases hs
end
end Go.Ab
