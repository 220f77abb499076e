/- append. -/
import Derived.Test.YtcedojbifnangaaAbOps6
namespace Go.Ab

section
variable {P : Program} {m : Mu} {h : Heap} {w : World}

/-- The same memory. -/
theorem evo_heap {w' : World} (hh : w'.heap = w.heap) (ho : w'.os = w.os) (ht : w'.tape = w.tape) (hu : w'.output = w.output) : Evo m h w m h w' where
  zeq := rfl
  len := Nat.le_refl _
  keep := fun _ _ hl => ⟨hl, rfl⟩
  own := fun x _ hl hb => .inl ⟨x, hl, hb⟩
  frame := fun _ _ _ => by rw [hh]
  size := by rw [hh]; exact Nat.le_refl _
  rs := fun b _ => by rw [rsz_of_block (w := w) (w' := w') (b := b) (by rw [hh])]; exact Nat.le_refl _
  os := ho
  tape := ht
  output := hu

theorem rel_heap (r : Rel m h w) {w' : World} (hh : w'.heap = w.heap) (ho : w'.os = w.os) (ht : w'.tape = w.tape) (hu : w'.output = w.output) : Rel m h w' :=
  ⟨r.zo, fun b hb => by rw [hh]; exact r.zl b hb, r.inj, fun x cs b hx hb => by
    exact (r.blk x cs b hx hb).carry (by rw [hh]) fun c v _ hrv => hrv.evo (evo_heap hh ho ht hu) r.lt⟩

theorem cell?_heap {w w' : World} (hh : w'.heap = w.heap) (a : Addr) : w'.cell? a = w.cell? a := by simp [World.cell?, hh]

theorem Pt.values {b o : Nat} {cs : List V} (hp : Pt m h w b o cs) : ∃ vs : List Value, vs.length = cs.length ∧ (∀ (j : Nat) (v : Value), vs[j]? = some v → w.cell? ⟨b, o + j, none⟩ = some v) ∧
    ∀ (i : Nat) (c : V) (v : Value), cs[i]? = some c → vs[i]? = some v → R m h w c v := by
  have hall : ∀ i, i < cs.length → ∃ v, w.cell? ⟨b, o + i, none⟩ = some v ∧ ∀ c, cs[i]? = some c → R m h w c v := by
    intro i hi
    obtain ⟨v, hv, hr⟩ := hp i cs[i] (List.getElem?_eq_getElem hi)
    refine ⟨v, hv, fun c hc => ?_⟩
    rw [List.getElem?_eq_getElem hi] at hc
    cases hc; exact hr
  let f : Nat → Value := fun j => if hj : j < cs.length then Classical.choose (hall j hj) else undef
  refine ⟨(List.range cs.length).map f, by simp, fun j v hv => ?_, fun i c v hc hv => ?_⟩
  · by_cases hj : j < cs.length
    · simp [hj] at hv
      subst hv
      simp only [f, hj, dite_true]; exact (Classical.choose_spec (hall j hj)).1
    · simp [hj] at hv
  · have hj : i < cs.length := (List.getElem?_eq_some_iff.1 hc).1
    simp [hj] at hv
    subst hv
    simp only [f, hj, dite_true]; exact (Classical.choose_spec (hall i hj)).2 c hc

theorem Pt.drop_take {b o : Nat} {cs : List V} (hp : Pt m h w b o cs) (k n : Nat) : Pt m h w b (o + k) ((cs.drop k).take n) := by
  intro i c hc
  rw [List.getElem?_take] at hc
  split at hc
  · rw [List.getElem?_drop] at hc
    rw [Nat.add_assoc]
    exact hp (k + i) c hc
  · cases hc

/-- A slice that the evaluator can look into. -/
theorem R.sl_at (r : Rel m h w) {x off len cap k : Nat} {v : Value} {cs : List V} (hv : R m h w (.sl x off len cap k) v) (hb : blockOf h x = some cs) :
    ∃ b rc arr T, m x = some b ∧ v = .slice (some ⟨b, off, none⟩) len rc ∧ cap ≤ rc ∧ len ≤ rc ∧ off + rc * k ≤ arr.size ∧ w.heap[b]? = some (.cells arr T (0, 0)) ∧ cs.length ≤ arr.size ∧ Pt m h w b 0 cs := by
  have hc := live_of_blockOf hb
  cases hv with
  | sl hlt hcap hlen hv =>
    obtain ⟨b, hmb, rfl, hsz⟩ := hv ⟨cs, hc⟩
    obtain ⟨arr, T, ha, hl, hr⟩ := (r.blk x cs b hc hmb).cells (notMap_of_blockOf hb)
    refine ⟨b, _, arr, T, hmb, rfl, hcap, hlen, by simpa [rsz, ha] using hsz, ha, hl, fun i c hic => ?_⟩
    obtain ⟨u, hu, hru⟩ := hr i c hic
    exact ⟨u, by simp [World.cell?, ha, hu], hru⟩

theorem flatten_get {k : Nat} : ∀ {xs : List (List V)} {q : Nat} {c : V}, (∀ e ∈ xs, e.length = k) → xs.flatten[q]? = some c → 0 < k ∧ ∃ e, xs[q / k]? = some e ∧ e[q % k]? = some c
  | [], q, c, _, hq => by simp at hq
  | e :: xs, q, c, hl, hq => by
    have he : e.length = k := hl e List.mem_cons_self
    rw [List.flatten_cons] at hq
    by_cases hlt : q < e.length
    · rw [List.getElem?_append_left hlt] at hq
      have hk : 0 < k := by omega
      rw [he] at hlt
      exact ⟨hk, e, by simp [Nat.div_eq_of_lt hlt], by rw [Nat.mod_eq_of_lt hlt]; exact hq⟩
    · rw [List.getElem?_append_right (by omega)] at hq
      obtain ⟨hk, e', h1, h2⟩ := flatten_get (fun e he => hl e (List.mem_cons_of_mem _ he)) hq
      have hge : k ≤ q := by omega
      refine ⟨hk, e', ?_, ?_⟩
      · rw [Nat.div_eq_sub_div hk hge, List.getElem?_cons_succ, ← he]; rw [he]; rw [he] at h1; exact h1
      · rw [Nat.mod_eq_sub_mod hge]; rw [he] at h2; exact h2

theorem src_ok (r : Rel m h w) {s n : Nat} {x : V} {xv : Value} {new : List V} (hx : R m h w x xv) (hs : srcCells h s x = some (n, new)) :
    ∃ news : List Value, news.length = new.length ∧ new.length = n * s ∧ (∀ (i : Nat) (c : V) (v : Value), new[i]? = some c → news[i]? = some v → R m h w c v) ∧
      (∀ w' : World, (Builtin.lenOf xv).run P w' = .ok n w') ∧ (∀ w' : World, w'.heap = w.heap → (Builtin.firstCells s n xv).run P w' = .ok news.toArray w') ∧ ∃ a l c, xv = .slice a l c := by
  unfold srcCells at hs
  split at hs
  · rename_i y off len cap k
    split at hs
    · rename_i cs hb
      split at hs
      · rename_i hc
        simp only [Bool.and_eq_true, decide_eq_true_eq] at hc
        obtain ⟨rfl, hle⟩ := hc
        cases hs
        obtain ⟨b, rc, arr, T, hmb, rfl, _, _, _, _, _, hpt⟩ := hx.sl_at r hb
        obtain ⟨vs, hv1, hv2, hv3⟩ := (hpt.drop_take off (n * k)).values
        have hlen : ((cs.drop off).take (n * k)).length = n * k := by simp; omega
        refine ⟨vs, hv1, hlen, hv3, fun w' => by simp [Builtin.lenOf], fun w' hh => ?_, _, _, _, rfl⟩
        refine run_firstCells_some w' k n _ n rc vs (by rw [hv1, hlen]) fun j v hj => ?_
        rw [cell?_heap hh, add_lit]
        have := hv2 j v hj
        rwa [Nat.zero_add] at this
      · cases hs
    · cases hs
  · rename_i xs
    split at hs
    · rename_i hall
      cases hs
      simp only [List.all_eq_true, beq_iff_eq] at hall
      have hfl : xs.flatten.length = xs.length * s := by
        clear hx
        induction xs with
        | nil => simp
        | cons e xs ih =>
          have h1 := hall e List.mem_cons_self
          have h2 := ih fun e he => hall e (List.mem_cons_of_mem _ he)
          simp only [List.flatten_cons, List.length_append, List.length_cons, h1, h2, Nat.add_mul, Nat.one_mul]; omega
      cases hx with
      | lst0 a rc =>
        refine ⟨[], rfl, by simp, by simp, fun w' => by simp [Builtin.lenOf], fun w' _ => ?_, _, _, _, rfl⟩
        cases a <;> simp [Builtin.firstCells, loadCells, loadCellsFrom]
      | lst rv him hrc hk hc hf hr =>
        rename_i b o k rc
        have hpt : Pt m h w b o xs.flatten := by
          intro q c hq
          obtain ⟨h0, e, he, hec⟩ := flatten_get hall hq
          have hks : k = s := by rw [← hk _ _ he]; exact hall e (List.mem_of_getElem? he)
          subst hks
          refine ⟨_, ?_, hr _ _ _ _ he hec⟩
          rw [← hc _ _ _ _ he hec, Nat.add_assoc, Nat.mul_comm (q / k) k, Nat.div_add_mod]
        obtain ⟨vs, hv1, hv2, hv3⟩ := hpt.values
        refine ⟨vs, hv1, hfl, hv3, fun w' => by simp [Builtin.lenOf], fun w' hh => ?_, _, _, _, rfl⟩
        refine run_firstCells_some w' s xs.length _ _ rc vs (by rw [hv1, hfl]) fun j v hj => ?_
        rw [cell?_heap hh, add_lit]
        exact hv2 j v hj
    · cases hs
  · cases hs
    cases hx
    exact ⟨[], rfl, by simp, by simp, fun w' => by simp [Builtin.lenOf], fun w' _ => by simp [Builtin.firstCells], _, _, _, rfl⟩
  · cases hs
end
end Go.Ab
