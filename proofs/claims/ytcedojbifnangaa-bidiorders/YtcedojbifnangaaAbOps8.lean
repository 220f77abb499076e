/- append: the three ways. -/
import Derived.Test.YtcedojbifnangaaAbOps7
namespace Go.Ab

section
variable {P : Program} {m : Mu} {h : Heap} {w : World}

theorem run_append_fit {t ty e : TypeId} {i : TypeInfo} (ht : P.underlying t = some (.slice e)) (hi : P.info? e = some i) {a : Addr} {sLen sCap n : Nat} {xv : Value} {news : List Value} {w' : World}
    (hlen : (Builtin.lenOf xv).run P w = .ok n w) (hf : (Builtin.firstCells i.size n xv).run P w = .ok news.toArray w) (hroom : sLen + n ≤ sCap)
    (hst : (storeCells (a.add (sLen * i.size)) news).run P w = .ok () w') :
    (Builtin.append_ #[t, t] ty #[.slice (some a) sLen sCap, xv]).run P w = .ok (.slice (some a) (sLen + n) sCap) w' := by
  simp [Builtin.append_, run_underlying ht, sizeOf, typeInfo, hi, hlen, hroom, hf, hst]

theorem run_append_grows {t ty e : TypeId} {i : TypeInfo} {z : Value} (ht : P.underlying t = some (.slice e)) (hi : P.info? e = some i) (hz : i.zero = some z) {base : Option Addr} {sLen sCap n : Nat} {xv : Value} {olds news : List Value}
    (hlen : (Builtin.lenOf xv).run P w = .ok n w) (hf : (Builtin.firstCells i.size n xv).run P w.drew = .ok news.toArray w.drew)
    (ho : (Builtin.firstCells i.size sLen (.slice base sLen sCap)).run P w.drew = .ok olds.toArray w.drew)
    (hg : sCap < sLen + n) (h63 : ((sLen + n : Nat) : Int) ≤ 9223372036854775807) (hfit : Builtin.nextslicecap (sLen + n) sCap * i.bytes ≤ 281474976710656) :
    (Builtin.append_ #[t, t] ty #[.slice base sLen sCap, xv]).run P w =
      .ok (.slice (some ⟨w.heap.size, 0, none⟩) (sLen + n) (grownCap w (sLen + n) sCap e))
        (w.drew.alloc (.cells (olds.toArray ++ news.toArray ++ Builtin.zeroCells z.cells (grownCap w (sLen + n) sCap e - (sLen + n))) e)) := by
  have hn : ¬ (sLen + n ≤ sCap) := by omega
  have h63' : ¬ (9223372036854775807 < ((sLen : Int) + (n : Int))) := by omega
  have h48' : ¬ (281474976710656 < Builtin.nextslicecap (sLen + n) sCap * i.bytes) := by omega
  have he : ∀ a b c : Array Value, a ++ b ++ c = a ++ (b ++ c) := fun a b c => Array.append_assoc
  rw [he]
  simp [Builtin.append_, run_underlying ht, sizeOf, typeInfo, zeroValue, hi, hz, hlen, hn, h63', h48', Question.forced, ho, hf, newRow, grownCap]

theorem live_kill {h : Heap} {x y : Nat} {o : Option (List V)} (hl : live ((h.set x none) ++ [o]) y) : (y < h.length ∧ y ≠ x ∧ live h y) ∨ y = h.length := by
  have hlt := live_lt hl
  simp at hlt
  by_cases hy : y = h.length
  · exact .inr hy
  · have hy' : y < h.length := by omega
    obtain ⟨cs, hc⟩ := hl
    rw [List.getElem?_append_left (by simpa using hy')] at hc
    by_cases hxy : x = y
    · subst hxy; rw [List.getElem?_set_self hy'] at hc; simp at hc
    · rw [List.getElem?_set_ne hxy] at hc
      exact .inl ⟨hy', fun e => hxy e.symm, cs, hc⟩

/-- A block dies, a new one takes its place; where it lies in the world: nb, which is new or was the dead one's. -/
theorem evo_kill {x nb : Nat} {cs : List V} {w' : World} (hnb : w.heap.size ≤ nb ∨ (live h x ∧ m x = some nb))
    (hframe : ∀ b, b < w.heap.size → b ≠ nb → w'.heap[b]? = w.heap[b]?) (hsize : w.heap.size ≤ w'.heap.size) (hrs : ∀ b, b < w.heap.size → rsz w b ≤ rsz w' b)
    (hos : w'.os = w.os) (htp : w'.tape = w.tape) (hout : w'.output = w.output) : Evo m h w (upd m h.length nb) ((h.set x none) ++ [some cs]) w' where
  zeq := rfl
  len := by simp
  keep := fun y hy hl => by
    rcases live_kill hl with ⟨_, _, h3⟩ | h3
    · exact ⟨h3, by simp [upd, Nat.ne_of_lt hy]⟩
    · omega
  own := fun y b hl hb => by
    rcases live_kill hl with ⟨h1, _, h3⟩ | rfl
    · exact .inl ⟨y, h3, by simpa [upd, Nat.ne_of_lt h1] using hb⟩
    · simp only [upd, if_true, Option.some.injEq] at hb
      subst hb
      rcases hnb with h1 | ⟨h1, h2⟩
      · exact .inr h1
      · exact .inl ⟨x, h1, h2⟩
  frame := fun b hb hn => hframe b hb fun e => by
    subst e
    rcases hnb with h1 | ⟨h1, h2⟩
    · omega
    · exact hn x h1 h2
  size := hsize
  rs := hrs
  os := hos
  tape := htp
  output := hout

theorem rel_kill (r : Rel m h w) {x nb : Nat} {cs : List V} {w' : World} (e : Evo m h w (upd m h.length nb) ((h.set x none) ++ [some cs]) w') (hnb : w.heap.size ≤ nb ∨ (live h x ∧ m x = some nb))
    (hframe : ∀ b, b < w.heap.size → b ≠ nb → w'.heap[b]? = w.heap[b]?) {arr : Array Value} {T : TypeId} (ha : w'.heap[nb]? = some (.cells arr T (0, 0)))
    (hl : cs.length ≤ arr.size) (hr : ∀ (i : Nat) (c : V), cs[i]? = some c → ∃ v, arr[i]? = some v ∧ R m h w c v) :
    Rel (upd m h.length nb) ((h.set x none) ++ [some cs]) w' := by
  have hne : ∀ y b, y < h.length → y ≠ x → live h y → m y = some b → b ≠ nb := by
    rintro y b hy hyx hly hb rfl
    rcases hnb with h1 | ⟨h1, h2⟩
    · have := r.lt y b hly hb; omega
    · exact hyx (r.inj y x b hly h1 hb h2)
  refine ⟨fun y b hl hb hz => ?_, fun b hb => Nat.lt_of_lt_of_le (r.zl b hb) e.size, fun y z b hy hz hby hbz => ?_, fun y cs' b hy hb => ?_⟩
  · rcases live_kill hl with ⟨h1, _, h3⟩ | rfl
    · simp only [upd, Nat.ne_of_lt h1, if_false] at hb
      exact r.zo y b h3 hb hz
    · simp only [upd, if_true, Option.some.injEq] at hb
      subst hb
      rcases hnb with h1 | ⟨h1, h2⟩
      · have := r.zl nb hz; omega
      · exact r.zo x nb h1 h2 hz
  · rcases live_kill hy with ⟨h1, h2, h3⟩ | rfl
    · simp only [upd, Nat.ne_of_lt h1, if_false] at hby
      rcases live_kill hz with ⟨g1, g2, g3⟩ | rfl
      · simp only [upd, Nat.ne_of_lt g1, if_false] at hbz
        exact r.inj y z b h3 g3 hby hbz
      · simp only [upd, if_true, Option.some.injEq] at hbz
        exact absurd hbz.symm (hne y b h1 h2 h3 hby)
    · simp only [upd, if_true, Option.some.injEq] at hby
      rcases live_kill hz with ⟨g1, g2, g3⟩ | rfl
      · simp only [upd, Nat.ne_of_lt g1, if_false] at hbz
        exact absurd hby.symm (hne z b g1 g2 g3 hbz)
      · rfl
  · rcases live_kill ⟨cs', hy⟩ with ⟨h1, h2, h3⟩ | rfl
    · simp only [upd, Nat.ne_of_lt h1, if_false] at hb
      rw [List.getElem?_append_left (by simpa using h1), List.getElem?_set_ne (fun e => h2 e.symm)] at hy
      exact (r.blk y cs' b hy hb).carry (hframe b (r.lt y b h3 hb) (hne y b h1 h2 h3 hb)) fun c v _ hrv => hrv.evo e r.lt
    · simp only [upd, if_true, Option.some.injEq] at hb
      subst hb
      simp at hy
      subst hy
      refine .inl ⟨arr, T, ha, hl, fun i c hc => ?_⟩
      obtain ⟨v, hv, hrv⟩ := hr i c hc
      exact ⟨v, hv, hrv.evo e r.lt⟩

theorem kill_sl {x nb : Nat} {cs : List V} {w' : World} {len cap k rc : Nat} (hcap : cap ≤ rc) (hlen : len ≤ rc) (hsz : rc * k ≤ rsz w' nb) :
    R (upd m h.length nb) ((h.set x none) ++ [some cs]) w' (.sl h.length 0 len cap k) (.slice (some ⟨nb, 0, none⟩) len rc) :=
  .sl (by simp) hcap hlen fun _ => ⟨nb, by simp [upd], rfl, by omega⟩

theorem roomy_bounds {n y : Nat} (hr : roomy n y = true) : n * y ≤ 2 ^ 40 ∧ n ≤ 2 ^ 40 := by
  simpa [roomy] using hr

theorem all_one {new : List V} {news : List Value} (hall : new.all V.leaf = true) (hlen : news.length = new.length) (hr : ∀ (i : Nat) (c : V) (v : Value), new[i]? = some c → news[i]? = some v → R m h w c v) : ∀ u ∈ news, u.oneCell' = true := by
  intro u hu
  obtain ⟨i, hi, rfl⟩ := List.getElem_of_mem hu
  have hi' : i < new.length := by omega
  exact leaf_one (List.all_eq_true.1 hall _ (List.getElem_mem hi')) (hr i _ _ (List.getElem?_eq_getElem hi') (List.getElem?_eq_getElem hi))

theorem append_ok (r : Rel m h w) {cfg : Cfg} {t u ty : TypeId} {d x y : V} {dv xv : Value} {h' : Heap} (hd : R m h w d dv) (hx : R m h w x xv) (hy : appendV P cfg h t u d x = some (y, h')) :
    t = u ∧ ∃ v w', (Builtin.append_ #[t, t] ty #[dv, xv]).run P w = .ok v w' ∧ Out m h w y h' v w' := by
  unfold appendV at hy
  split at hy
  · rename_i elem ht
    split at hy
    · rename_i s by_ hs hby
      obtain ⟨i, hi, rfl⟩ := szOf_info hs
      have hbi : i.bytes = by_ := by simpa [bytesOf, hi] using hby
      subst hbi
      split at hy
      · rename_i n new hsrc
        obtain ⟨news, hn1, hn2, hn3, hn4, hn5, _⟩ := src_ok (P := P) r hx hsrc
        split at hy
        · rename_i hc
          simp only [Bool.and_eq_true, decide_eq_true_eq] at hc
          obtain ⟨⟨⟨hall, hs0⟩, rfl⟩, hzf⟩ := hc
          obtain ⟨z, hz, hzl⟩ : ∃ z, zeroOf P elem = some z ∧ (vcells z).length = i.size := by
            unfold zeroFits at hzf
            split at hzf
            · rename_i z hz; exact ⟨z, hz, by simpa using hzf⟩
            · cases hzf
          refine ⟨rfl, ?_⟩
          obtain ⟨zv, _, hzo, hzi⟩ := run_zeroValue' hz w
          have hzi' : i.zero = some zv := by simpa [hi] using hzi
          have hzs : zv.cells.size = i.size := by rw [← hzl]; exact (zero_PW (m := m) (h := h) (w := w) hzo).1
          have h1 := all_one hall hn1 hn3
          have hnl : news.length = n * i.size := by omega
          split at hy
          · -- a nil slice
            cases hd
            split at hy
            · rename_i hrm
              have hrb := roomy_bounds hrm
              split at hy
              · rename_i hn0
                subst hn0
                cases hy
                have hnews : news = [] := List.eq_nil_of_length_eq_zero (by omega)
                subst hnews
                exact ⟨.slice none 0 0, w, by simp [Builtin.append_, run_underlying ht, sizeOf, typeInfo, hi, hn4, hn5 w rfl], .same r .nils⟩
              · rename_i hn0
                cases hy
                have hgc := grownCap_ge w (0 + n) 0 elem
                have hrun := run_append_grows (P := P) (w := w) (ty := ty) (base := none) (sLen := 0) (sCap := 0) (n := n) (xv := xv) (olds := []) (news := news) ht hi hzi' (hn4 w) (hn5 _ rfl)
                  (by simp [Builtin.firstCells]) (by omega) (by omega) (growslice_fits (by omega) (by rw [Nat.zero_add]; omega))
                simp only [Nat.zero_add] at hrun hgc
                refine ⟨_, _, hrun, _, (evo_heap (w := w) (w' := w.drew) rfl rfl rfl rfl).trans (evo_alloc _ _), rel_alloc (rel_heap r (w' := w.drew) rfl rfl rfl rfl) (by simp; omega) ?_, ?_⟩
                · intro j c hj
                  have hlt : j < news.length := by rw [hn1]; exact (List.getElem?_eq_some_iff.1 hj).1
                  refine ⟨news[j], by simp [Array.getElem?_append, hlt], (hn3 j c _ hj (List.getElem?_eq_getElem hlt)).evo (evo_heap (w := w) (w' := w.drew) rfl rfl rfl rfl) r.lt⟩
                · refine new_sl (w := w.drew) hgc ?_ _ hgc
                  rw [rsz_new]
                  simp only [Array.size_append, List.size_toArray, size_zeroCells, hnl, hzs, List.length_nil, Nat.zero_add, ← Nat.add_mul]
                  exact Nat.mul_le_mul_right _ (by omega)
            · cases hy
          · rename_i b off len cap k
            split at hy
            · rename_i hc
              simp only [Bool.and_eq_true, decide_eq_true_eq] at hc
              obtain ⟨rfl, hrm⟩ := hc
              have hrb := roomy_bounds hrm
              split at hy
              · rename_i hfits
                split at hy
                · rename_i h2 hst
                  simp only [Option.some.injEq, Prod.mk.injEq] at hy
                  obtain ⟨rfl, rfl⟩ := hy
                  obtain ⟨cs, hb⟩ : ∃ cs, blockOf h b = some cs := by
                    unfold storeCellsV at hst
                    split at hst
                    · rename_i cs hb; exact ⟨cs, hb⟩
                    · cases hst
                  obtain ⟨b', rc, arr, T, hmb, rfl, hcap, hlen, hsz, ha, hle, hpt⟩ := hd.sl_at r hb
                  obtain ⟨w', hrun, e, r'⟩ := storeCells_ok (P := P) r hmb hb hst hn1 hn3 h1
                  refine ⟨_, w', run_append_fit ht hi (hn4 w) (hn5 w rfl) (by omega) (by rw [add_lit]; exact hrun), m, e, r', ?_⟩
                  refine .sl (Nat.lt_of_lt_of_le (live_lt ⟨cs, live_of_blockOf hb⟩) e.len) hcap (by omega) fun _ => ⟨b', hmb, rfl, ?_⟩
                  have h1 := e.rs b' (r.lt b b' ⟨cs, live_of_blockOf hb⟩ hmb)
                  have h2 : rsz w b' = arr.size := by simp [rsz, ha]
                  omega
                · cases hy
              · rename_i hfits
                split at hy
                · rename_i cs hb
                  split at hy
                  · rename_i hc2
                    simp only [Bool.and_eq_true, decide_eq_true_eq] at hc2
                    obtain ⟨⟨rfl, _⟩, hcl⟩ := hc2
                    simp only [Option.some.injEq, Prod.mk.injEq] at hy
                    obtain ⟨rfl, rfl⟩ := hy
                    obtain ⟨b', rc, arr, T, hmb, rfl, hcap, hlen, hsz, ha, hle, hpt⟩ := hd.sl_at r hb
                    have hlive : live h b := ⟨cs, live_of_blockOf hb⟩
                    have hb'lt := r.lt b b' hlive hmb
                    have htl : (cs.take (len * i.size)).length = len * i.size := by simp; omega
                    have hmul : (len + n) * i.size = len * i.size + n * i.size := Nat.add_mul _ _ _
                    by_cases hroom : len + n ≤ rc
                    · -- in place
                      have hrcm : (len + n) * i.size ≤ rc * i.size := Nat.mul_le_mul_right _ hroom
                      have hst := run_storeCells_at P b' (len * i.size) T news 0 arr w ha (by omega) h1
                      simp only [Nat.add_zero] at hst
                      have hrun := run_append_fit (ty := ty) (a := ⟨b', 0, none⟩) ht hi (hn4 w) (hn5 w rfl) hroom (by rw [add_lit, Nat.zero_add]; exact hst)
                      generalize harr : (arr.toList.take (len * i.size) ++ news ++ arr.toList.drop (len * i.size + news.length)).toArray = arr' at hst hrun
                      have hsz' : arr'.size = arr.size := by rw [← harr]; simp; omega
                      have e : Evo m h w (upd m h.length b') ((h.set b none) ++ [some (cs.take (len * i.size) ++ new)]) (w.setRow b' arr') :=
                        evo_kill (.inr ⟨hlive, hmb⟩) (fun c _ hc => setRow_other w b' c arr' hc) (by simp) (fun c _ => by
                          by_cases hcb : c = b'
                          · subst hcb; simp only [rsz, ha, setRow_heap w c arr arr' T (0, 0) ha]; omega
                          · rw [rsz_of_block (setRow_other w b' c arr' hcb)]; exact Nat.le_refl _) rfl rfl rfl
                      have hget : ∀ q, q < (len + n) * i.size → arr'[q]? = if q < len * i.size then arr[q]? else news[q - len * i.size]? := by
                        intro q hq
                        have hal : (arr.toList.take (len * i.size)).length = len * i.size := by simp; omega
                        rw [← harr, List.getElem?_toArray]
                        by_cases hql : q < len * i.size
                        · rw [if_pos hql, List.append_assoc, List.getElem?_append_left (by omega)]; simp [hql]
                        · rw [if_neg hql, List.append_assoc, List.getElem?_append_right (by omega), hal, List.getElem?_append_left (by omega)]
                      refine ⟨_, _, hrun, _, e, rel_kill r e (.inr ⟨hlive, hmb⟩) (fun c _ hc => setRow_other w b' c arr' hc) (setRow_heap w b' arr arr' T (0, 0) ha) (by simp only [List.length_append, htl, hn2, hsz']; omega) ?_, ?_⟩
                      · intro q c hq
                        have hqlt : q < (len + n) * i.size := by
                          have := (List.getElem?_eq_some_iff.1 hq).1
                          simp only [List.length_append, htl, hn2] at this; omega
                        rw [hget q hqlt]
                        by_cases hql : q < len * i.size
                        · rw [if_pos hql]
                          rw [List.getElem?_append_left (by omega), List.getElem?_take, if_pos hql] at hq
                          obtain ⟨v, hv, hrv⟩ := hpt q c hq
                          refine ⟨v, ?_, hrv⟩
                          simpa [World.cell?, ha] using hv
                        · rw [if_neg hql]
                          rw [List.getElem?_append_right (by omega), htl] at hq
                          have hlt : q - len * i.size < news.length := by omega
                          exact ⟨_, List.getElem?_eq_getElem hlt, hn3 _ c _ hq (List.getElem?_eq_getElem hlt)⟩
                      · refine kill_sl (by omega) (by omega) ?_
                        simp only [rsz, setRow_heap w b' arr arr' T (0, 0) ha]; omega
                    · -- anew
                      have hpt' : Pt m h w b' 0 (cs.take (len * i.size)) := by simpa using hpt.drop_take 0 (len * i.size)
                      obtain ⟨olds, ho1, ho2, ho3⟩ := hpt'.values
                      have hgc := grownCap_ge w (len + n) rc elem
                      have hrun := run_append_grows (P := P) (w := w) (ty := ty) (base := some ⟨b', 0, none⟩) (sLen := len) (sCap := rc) (n := n) (xv := xv) (olds := olds) (news := news) ht hi hzi' (hn4 w) (hn5 _ rfl)
                        (run_firstCells_some w.drew i.size len _ _ _ olds (by rw [ho1, htl]) (fun j v hj => by rw [cell?_heap (w := w) (w' := w.drew) rfl, add_lit]; exact ho2 j v hj))
                        (by omega) (by omega) (growslice_fits (by omega) (by omega))
                      generalize harr : olds.toArray ++ news.toArray ++ Builtin.zeroCells zv.cells (grownCap w (len + n) rc elem - (len + n)) = arr' at hrun
                      have hsz' : arr'.size = grownCap w (len + n) rc elem * i.size := by
                        rw [← harr]
                        simp only [Array.size_append, List.size_toArray, size_zeroCells, hnl, hzs, ho1, htl, ← Nat.add_mul]
                        congr 1; omega
                      have hfr : ∀ c, c < w.heap.size → c ≠ w.heap.size → (w.drew.alloc (.cells arr' elem)).heap[c]? = w.heap[c]? := fun c hc _ => pushed_old (w := w.drew) hc
                      have e : Evo m h w (upd m h.length w.heap.size) ((h.set b none) ++ [some (cs.take (len * i.size) ++ new)]) (w.drew.alloc (.cells arr' elem)) :=
                        evo_kill (.inl (Nat.le_refl _)) hfr (by simp) (fun c hc => by rw [rsz_of_block (hfr c hc (Nat.ne_of_lt hc))]; exact Nat.le_refl _) rfl rfl rfl
                      refine ⟨_, _, hrun, _, e, rel_kill r e (.inl (Nat.le_refl _)) hfr (arr := arr') (T := elem) (pushed_new (w := w.drew)) ?_ ?_, ?_⟩
                      · rw [hsz']
                        simp only [List.length_append, htl, hn2, ← Nat.add_mul]
                        exact Nat.mul_le_mul_right _ hgc
                      · intro q c hq
                        rw [← harr]
                        by_cases hql : q < len * i.size
                        · rw [List.getElem?_append_left (by omega)] at hq
                          have hlt : q < olds.length := by omega
                          refine ⟨olds[q], ?_, ho3 q c _ hq (List.getElem?_eq_getElem hlt)⟩
                          rw [Array.append_assoc, Array.getElem?_append_left (by simpa using hlt)]
                          simp [hlt]
                        · rw [List.getElem?_append_right (by omega), htl] at hq
                          have hlt : q - len * i.size < news.length := by rw [hn1]; exact (List.getElem?_eq_some_iff.1 hq).1
                          refine ⟨news[q - len * i.size], ?_, hn3 _ c _ hq (List.getElem?_eq_getElem hlt)⟩
                          have hol : olds.length = len * i.size := by omega
                          rw [Array.append_assoc, Array.getElem?_append_right (by simp; omega), Array.getElem?_append_left (by simp; omega)]
                          simp [hol, hlt]
                      · refine kill_sl hgc hgc ?_
                        have : rsz (w.drew.alloc (.cells arr' elem)) w.heap.size = arr'.size := rsz_new (w := w.drew)
                        rw [this, hsz']
                        exact Nat.le_refl _
                  · cases hy
                · cases hy
            · cases hy
          · cases hy
        · cases hy
      · cases hy
    · cases hy
  · cases hy
end
end Go.Ab
