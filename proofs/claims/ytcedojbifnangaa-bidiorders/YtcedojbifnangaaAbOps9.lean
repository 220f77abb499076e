/- make, conversions. -/
import Derived.Test.YtcedojbifnangaaAbOps8
import Derived.Laws.BytesString
import Derived.IntWalk
namespace Go.Ab

section
variable {P : Program} {m : Mu} {h : Heap} {w : World}

theorem wrap_small {n : Int} (h0 : 0 ≤ n) (h1 : n ≤ 2 ^ 40) : IntKind.i64.wrap n = n := IntWalk.i64_in n ⟨by omega, by omega⟩

theorem zerosFor_get {z : List V} {s : Nat} (hz : z.length = s) (hs : 0 < s) : ∀ (n q : Nat), (zerosFor z n)[q]? = if q < n * s then z[q % s]? else none
  | 0, q => by simp [zerosFor]
  | n + 1, q => by
    rw [zerosFor]
    by_cases hq : q < s
    · rw [List.getElem?_append_left (by omega), Nat.mod_eq_of_lt hq, if_pos (by rw [Nat.add_mul]; omega)]
    · have hmod : q % s = (q - s) % s := Nat.mod_eq_sub_mod (by omega)
      rw [List.getElem?_append_right (by omega), zerosFor_get hz hs n, hz, hmod]
      by_cases h2 : q - s < n * s
      · rw [if_pos h2, if_pos (by rw [Nat.add_mul]; omega)]
      · rw [if_neg h2, if_neg (by rw [Nat.add_mul]; omega)]

theorem zerosFor_length {z : List V} : ∀ n, (zerosFor z n).length = n * z.length
  | 0 => by simp [zerosFor]
  | n + 1 => by simp [zerosFor, zerosFor_length n, Nat.add_mul, Nat.add_comm]

theorem makeSlice_ok (r : Rel m h w) {t : TypeId} {l c y : V} {lv cv : Value} {h' : Heap} (hl : R m h w l lv) (hc : R m h w c cv) (hy : makeSliceV P h t l c = some (y, h')) :
    ∃ v w', (Instr.makeSlice t lv cv).run P w = .ok v w' ∧ Out m h w y h' v w' := by
  unfold makeSliceV at hy
  split at hy
  · rename_i elem n mm hu
    cases hl; cases hc
    split at hy
    · rename_i s by_ z hs hby hz
      obtain ⟨i, hi, rfl⟩ := szOf_info hs
      have hbi : i.bytes = by_ := by simpa [bytesOf, hi] using hby
      subst hbi
      split at hy
      · rename_i hcnd
        simp only [Bool.and_eq_true, decide_eq_true_eq, beq_iff_eq] at hcnd
        obtain ⟨⟨⟨⟨h0, hle⟩, hrm⟩, hzl⟩, hs0⟩ := hcnd
        have hrb := roomy_bounds hrm
        simp only [Option.some.injEq, Prod.mk.injEq] at hy
        obtain ⟨rfl, rfl⟩ := hy
        obtain ⟨zv, hzr, hzo, _⟩ := run_zeroValue' hz w
        have hpz := zero_PW (m := m) (h := h) (w := w) hzo
        have hm0 : 0 ≤ mm := by omega
        have hm40 : mm ≤ 2 ^ 40 := by omega
        have hwn : IntKind.i64.wrap n = n := wrap_small h0 (by omega)
        have hwm : IntKind.i64.wrap mm = mm := wrap_small hm0 hm40
        have hnat : ((i.bytes : Int) * mm) = ((mm.toNat * i.bytes : Nat) : Int) := by
          rw [Int.natCast_mul, Int.toNat_of_nonneg hm0, Int.mul_comm]
        have hbig : ¬ (281474976710656 < (i.bytes : Int) * mm) := by rw [hnat]; omega
        have hm0' : ¬ mm < 0 := by omega
        have hn0' : ¬ n < 0 := by omega
        have hnm' : ¬ n > mm := by omega
        generalize harr : (Array.range (mm.toNat * i.size)).map (fun q => zv.cells[q % zv.cells.size]!) = arr
        have hasz : arr.size = mm.toNat * i.size := by rw [← harr]; simp
        have hrun : (Instr.makeSlice t (.int .i64 n) (.int .i64 mm)).run P w = .ok (.slice (some ⟨w.heap.size, 0, none⟩) n.toNat mm.toNat) (w.alloc (.cells arr elem)) := by
          by_cases hz0 : mm.toNat * i.size = 0
          · have ha : arr = #[] := Array.eq_empty_of_size_eq_zero (by omega)
            have hr0 : ∀ f : Nat → Value, Array.map f (Array.range 0) = #[] := fun f => Array.eq_empty_of_size_eq_zero (by simp)
            simp [Instr.makeSlice, run_underlying hu, asInt, asIntOf, typeInfo, hi, hwn, hwm, hbig, hm0', hn0', hnm', sizeOf, hz0, newRow, ha, hr0]
          · simp [Instr.makeSlice, run_underlying hu, asInt, asIntOf, typeInfo, hi, hwn, hwm, hbig, hm0', hn0', hnm', sizeOf, hz0, hzr, newRow, ← harr]
        refine ⟨_, _, hrun, _, evo_alloc _ _, rel_alloc r (by rw [zerosFor_length, hzl, hasz]; exact Nat.le_refl _) ?_, new_sl (by omega) (by rw [rsz_new, hasz]; exact Nat.le_refl _) _ (Nat.le_refl _)⟩
        intro q c hq
        rw [zerosFor_get hzl hs0] at hq
        split at hq
        · rename_i hlt
          have hzc : zv.cells.size = i.size := by rw [hpz.1, hzl]
          have hq2 : q % i.size < zv.cells.size := by rw [hzc]; exact Nat.mod_lt _ hs0
          refine ⟨zv.cells[q % i.size], ?_, hpz.2 _ c _ hq (Array.getElem?_eq_getElem hq2)⟩
          rw [← harr]
          simp [hlt, hzc, getElem!_pos zv.cells (q % i.size) hq2]
        · cases hq
      · cases hy
    · cases hy
  · cases hy

theorem runesFrom_eq (s : ByteArray) : ∀ (b i : Nat) (acc : Array Value), Conv.runesFrom s b i acc = acc ++ ((runesOf s b i).map (Value.int .i32)).toArray
  | 0, i, acc => by simp [Conv.runesFrom, runesOf]
  | b + 1, i, acc => by
    simp only [Conv.runesFrom, runesOf]
    split
    · rw [runesFrom_eq s b]
      apply Array.ext'
      simp
    · simp

theorem bytesIn_R : ∀ {cs : List V} {vs : List Value} {bs : List UInt8}, vs.length = cs.length → (∀ (i : Nat) (c : V) (v : Value), cs[i]? = some c → vs[i]? = some v → R m h w c v) → bytesIn cs = some bs →
    ∃ ns : List Int, vs = ns.map (Value.int .u8) ∧ bs = ns.map fun n => UInt8.ofNat n.toNat
  | [], [], bs, _, _, hb => by simp [bytesIn] at hb; subst hb; exact ⟨[], rfl, rfl⟩
  | c :: cs, v :: vs, bs, hl, hr, hb => by
    unfold bytesIn at hb
    split at hb
    · rename_i h1; cases h1
    · rename_i n r h1
      cases h1
      split at hb
      · rename_i bs' hbs
        cases hb
        obtain ⟨ns, h1, h2⟩ := bytesIn_R (by simpa using hl) (fun i c v hc hv => hr (i + 1) c v (by simpa using hc) (by simpa using hv)) hbs
        have := hr 0 _ v rfl rfl
        cases this
        exact ⟨n :: ns, by simp [h1], by simp [h2]⟩
      · cases hb
    · cases hb
  | [], _ :: _, _, hl, _, _ => by simp at hl
  | _ :: _, [], _, hl, _, _ => by simp at hl

theorem foldl_push (ns : List Int) (r : ByteArray) : ns.foldl (fun r n => r.push (UInt8.ofNat n.toNat)) r = ⟨r.data ++ (ns.map fun n => UInt8.ofNat n.toNat).toArray⟩ := by
  induction ns generalizing r with
  | nil => simp
  | cons n ns ih =>
    rw [List.foldl_cons, ih]
    congr 1
    show r.data.push _ ++ _ = _
    apply Array.ext'
    simp

theorem elems_ok (r : Rel m h w) {x : V} {xv : Value} {cs : List V} (hx : R m h w x xv) (he : elemsOf h x = some cs) :
    ∃ vs : List Value, vs.length = cs.length ∧ (∀ (i : Nat) (c : V) (v : Value), cs[i]? = some c → vs[i]? = some v → R m h w c v) ∧
      (((∃ l c, xv = .slice none l c) ∧ vs = []) ∨ ∃ a len cap, xv = .slice (some a) len cap ∧ (loadCells a len).run P w = .ok vs.toArray w) := by
  have hsrc : srcCells h 1 x = some (cs.length, cs) ∨ False := by
    unfold elemsOf at he
    split at he
    · rename_i y off len cap k
      split at he
      · rename_i bl hb
        split at he
        · rename_i hc
          simp only [Bool.and_eq_true, decide_eq_true_eq] at hc
          obtain ⟨rfl, hle⟩ := hc
          cases he
          left
          simp only [srcCells, hb, Nat.mul_one, hle, decide_true, Bool.and_true, if_true, Option.some.injEq, Prod.mk.injEq, and_true]
          simp; omega
        · cases he
      · cases he
    · rename_i xs
      left
      have key : ∀ (xs : List (List V)) (cs : List V), (xs.mapM fun e => match e with | [c] => some c | _ => none) = some cs → (xs.all (fun e => e.length == 1)) = true ∧ xs.flatten = cs ∧ xs.length = cs.length := by
        intro xs
        induction xs with
        | nil => intro cs h; simp at h; subst h; simp
        | cons e xs ih =>
          intro cs h
          simp only [List.mapM_cons, Option.bind_eq_bind, Option.bind_eq_some_iff, Option.pure_def] at h
          obtain ⟨c, h1, cs', h2, h3⟩ := h
          cases h3
          obtain ⟨i1, i2, i3⟩ := ih cs' h2
          match e, h1 with
          | [c'], h1 => cases h1; simp [i1, i2, i3]
      obtain ⟨k1, k2, k3⟩ := key xs cs he
      simp only [srcCells, k1, if_true, k2, k3]
    · cases he; left; rfl
    · cases he
  rcases hsrc with hsrc | hf
  · obtain ⟨news, h1, h2, h3, h4, h5, a, l, c, rfl⟩ := src_ok (P := P) r hx hsrc
    refine ⟨news, h1, h3, ?_⟩
    have h6 := h5 w rfl
    have h7 := h4 w
    simp only [Builtin.lenOf, Sem.run_pure, Result.ok.injEq, and_true] at h7
    subst h7
    cases a with
    | some a =>
      right
      refine ⟨a, _, _, rfl, ?_⟩
      simpa [Builtin.firstCells] using h6
    | none =>
      left
      have hn : news = [] := by
        simp only [Builtin.firstCells, Sem.run_pure, Result.ok.injEq, and_true] at h6
        have := congrArg Array.toList h6
        simpa using this.symm
      exact ⟨⟨_, _, rfl⟩, hn⟩
  · exact hf.elim

theorem runesIn_R : ∀ {cs : List V} {vs : List Value} {ns : List Int}, vs.length = cs.length → (∀ (i : Nat) (c : V) (v : Value), cs[i]? = some c → vs[i]? = some v → R m h w c v) → runesIn cs = some ns → vs = ns.map (Value.int .i32)
  | [], [], ns, _, _, hb => by simp [runesIn] at hb; subst hb; rfl
  | c :: cs, v :: vs, ns, hl, hr, hb => by
    unfold runesIn at hb
    split at hb
    · rename_i h1; cases h1
    · rename_i n r h1
      cases h1
      split at hb
      · rename_i ns' hns
        cases hb
        have ih := runesIn_R (by simpa using hl) (fun i c v hc hv => hr (i + 1) c v (by simpa using hc) (by simpa using hv)) hns
        have := hr 0 _ v rfl rfl
        cases this
        simp [ih]
      · cases hb
    · cases hb
  | [], _ :: _, _, hl, _, _ => by simp at hl
  | _ :: _, [], _, hl, _, _ => by simp at hl

theorem run_forIn_runes {w : World} (body : Value → ByteArray → Sem (ForInStep ByteArray)) (hb : ∀ n r, (body (.int .i32 n) r).run P w = .ok (.yield (r ++ Utf8.encode n)) w) (ns : List Int) (r : ByteArray) :
    (forIn (ns.map (Value.int .i32)) r body).run P w = .ok (ns.foldl (fun s n => s ++ Utf8.encode n) r) w := by
  induction ns generalizing r with
  | nil => simp [Sem.run_pure]
  | cons n ns ih => simp only [List.map_cons, List.forIn_cons, Sem.run_bind, hb, Result.andThen_ok, ih, List.foldl_cons]

theorem run_runesToString (w : World) (a : Addr) (len cap : Nat) (ns : List Int) (h : (loadCells a len).run P w = .ok (ns.map (Value.int .i32)).toArray w) :
    (Conv.runesToString (.slice (some a) len cap)).run P w = .ok (.string (encAll ns)) w := by
  unfold Conv.runesToString
  simp only [Sem.run_bind, h, Result.andThen, List.forIn_toArray]
  rw [run_forIn_runes _ (by intro n r; simp [Sem.run_pure])]
  simp [Sem.run_pure, encAll]

theorem conv_ok (r : Rel m h w) {src dst : TypeId} {x y : V} {xv : Value} {h' : Heap} (hx : R m h w x xv) (hy : convV P h src dst x = some (y, h')) :
    ∃ v w', (convert src dst xv).run P w = .ok v w' ∧ Out m h w y h' v w' := by
  unfold convV at hy
  split at hy
  · rename_i e hs hd
    split at hy
    · rename_i he
      split at hy
      · rename_i cs hcs
        split at hy
        · rename_i bs hbs
          simp only [Option.some.injEq, Prod.mk.injEq] at hy
          obtain ⟨rfl, rfl⟩ := hy
          obtain ⟨vs, h1, h2, h3⟩ := elems_ok (P := P) r hx hcs
          obtain ⟨ns, rfl, rfl⟩ := bytesIn_R h1 h2 hbs
          rcases h3 with ⟨⟨l, c, rfl⟩, h4⟩ | ⟨a, len, cap, rfl, h4⟩
          · have : ns = [] := by simpa using h4
            subst this
            exact ⟨.string ByteArray.empty, w, by simp [convert, run_underlying hs, run_underlying hd, run_underlying he, Conv.bytesToString], .same r (.str _)⟩
          · have hb := run_bytesToString w a len cap ns h4
            rw [foldl_push] at hb
            refine ⟨.string ⟨ByteArray.empty.data ++ (ns.map fun n => UInt8.ofNat n.toNat).toArray⟩, w, by simp only [convert, Sem.run_bind, run_underlying hs, run_underlying hd, run_underlying he, Result.andThen_ok, hb], .same r ?_⟩
            have : (⟨ByteArray.empty.data ++ (ns.map fun n => UInt8.ofNat n.toNat).toArray⟩ : ByteArray) = ⟨(ns.map fun n => UInt8.ofNat n.toNat).toArray⟩ := by
              show (⟨#[] ++ _⟩ : ByteArray) = _
              rw [Array.empty_append]
            rw [this]
            exact .str _
        · cases hy
      · cases hy
    · rename_i he
      split at hy
      · rename_i cs hcs
        split at hy
        · rename_i ns hns
          simp only [Option.some.injEq, Prod.mk.injEq] at hy
          obtain ⟨rfl, rfl⟩ := hy
          obtain ⟨vs, h1, h2, h3⟩ := elems_ok (P := P) r hx hcs
          have hvs := runesIn_R h1 h2 hns
          subst hvs
          rcases h3 with ⟨⟨l, c, rfl⟩, h4⟩ | ⟨a, len, cap, rfl, h4⟩
          · have : ns = [] := by simpa using h4
            subst this
            exact ⟨.string ByteArray.empty, w, by simp [convert, run_underlying hs, run_underlying hd, run_underlying he, Conv.runesToString], .same r (.str _)⟩
          · have hb := run_runesToString (P := P) w a len cap ns h4
            exact ⟨.string (encAll ns), w, by simp only [convert, Sem.run_bind, run_underlying hs, run_underlying hd, run_underlying he, Result.andThen_ok, hb], .same r (.str _)⟩
        · cases hy
      · cases hy
    · cases hy
  · rename_i sd k hs hd
    split at hy
    · rename_i k' n
      cases hx
      simp only [Option.some.injEq, Prod.mk.injEq] at hy
      obtain ⟨rfl, rfl⟩ := hy
      exact ⟨.int k (k.wrap n), w, by cases sd <;> simp [convert, run_underlying hs, run_underlying hd, Conv.intToInt], .same r (.int _ _)⟩
    · cases hy
  · rename_i sd hne hs hd
    split at hy
    · rename_i s
      cases hx
      simp only [Option.some.injEq, Prod.mk.injEq] at hy
      obtain ⟨rfl, rfl⟩ := hy
      exact ⟨.string s, w, by cases sd <;> simp [convert, run_underlying hs, run_underlying hd], .same r (.str _)⟩
    · cases hy
  · rename_i sd e hs hd
    split at hy
    · rename_i s
      cases hx
      split at hy
      · rename_i he
        simp only [Option.some.injEq, Prod.mk.injEq] at hy
        obtain ⟨rfl, rfl⟩ := hy
        have hge : (runesOf s s.size 0).length ≤ grownCap w (runesOf s s.size 0).length 0 e := grownCap_ge _ _ _ _
        generalize hcap : grownCap w (runesOf s s.size 0).length 0 e = cap at hge
        have hrun : (convert src dst (.string s)).run P w = .ok (.slice (some ⟨w.heap.size, 0, none⟩) (runesOf s s.size 0).length cap)
            (w.drew.alloc (.cells (((runesOf s s.size 0).map (Value.int .i32)).toArray ++ Array.replicate (cap - (runesOf s s.size 0).length) (.int .i32 0)) e)) := by
          cases sd <;> simp [convert, run_underlying hs, run_underlying hd, run_underlying he, Conv.stringToRunes, runesFrom_eq, Question.forced, newRow, ← hcap, grownCap]
        refine ⟨_, _, hrun, _, (evo_heap (w := w) (w' := w.drew) rfl rfl rfl rfl).trans (evo_alloc _ _), rel_alloc (rel_heap r (w' := w.drew) rfl rfl rfl rfl) (by simp) ?_, new_sl (w := w.drew) hge ?_ _ hge⟩
        · intro j c hj
          rw [List.getElem?_map] at hj
          simp only [Option.map_eq_some_iff] at hj
          obtain ⟨n, hn, rfl⟩ := hj
          have hlt := (List.getElem?_eq_some_iff.1 hn).1
          refine ⟨.int .i32 n, ?_, .int _ _⟩
          rw [Array.getElem?_append_left (by simpa using hlt)]
          simp [hn]
        · rw [rsz_new]; simp; omega
      · cases hy
    · cases hy
  · cases hy
end
end Go.Ab
