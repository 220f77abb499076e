/- Literals of structs and arrays. -/
import Derived.Test.YtcedojbifnangaaAbOps4
import Derived.Great.FillDense
namespace Go.Ab

section
variable {P : Program} {m : Mu} {h : Heap} {w : World}

theorem leaf_one {v : V} {rv : Value} (hl : v.leaf = true) (hr : R m h w v rv) : rv.oneCell' = true := by
  cases hr <;> first | rfl | (simp [V.leaf] at hl)

theorem cells_one {rv : Value} (h1 : rv.oneCell' = true) : rv.cells = #[rv] := by
  cases rv <;> first | rfl | (simp [Value.oneCell'] at h1)

/-- Cells side by side. -/
def PW (m : Mu) (h : Heap) (w : World) (cs : List V) (arr : Array Value) : Prop := arr.size = cs.length ∧ ∀ (i : Nat) (c : V) (v : Value), cs[i]? = some c → arr[i]? = some v → R m h w c v

theorem cellsOf_R {v : V} {rv : Value} {vs : List V} (hv : cellsOf v = some vs) (hr : R m h w v rv) : PW m h w vs rv.cells ∧ ∀ u ∈ rv.cells.toList, u.oneCell' = true := by
  unfold cellsOf at hv
  split at hv
  · rename_i cs
    split at hv
    · rename_i hall
      cases hv
      cases hr with
      | agg hl hr =>
        refine ⟨⟨hl, hr⟩, fun u hu => ?_⟩
        simp only [Value.cells] at hu
        obtain ⟨i, hi, rfl⟩ := List.getElem_of_mem hu
        have hi' : i < vs.length := by rw [← hl]; simpa using hi
        have hlf := List.all_eq_true.1 hall vs[i] (List.getElem_mem hi')
        exact leaf_one hlf (hr i vs[i] _ (List.getElem?_eq_getElem hi') (by simp))
    · cases hv
  · split at hv
    · rename_i hlf
      cases hv
      have h1 := leaf_one hlf hr
      rw [cells_one h1]
      refine ⟨⟨rfl, fun i c u hc hu => ?_⟩, by simpa using h1⟩
      cases i with
      | zero => simp at hc hu; subst hc hu; exact hr
      | succ i => simp at hc
    · cases hv

theorem putAt_length (cs : List V) (off : Nat) (vs : List V) : (putAt cs off vs).length = cs.length := by
  induction vs generalizing cs off with
  | nil => rfl
  | cons v r ih => simp [putAt, ih]

theorem putAt_get (cs : List V) (off : Nat) (vs : List V) (i : Nat) (hle : off + vs.length ≤ cs.length) : (putAt cs off vs)[i]? = if off ≤ i ∧ i < off + vs.length then vs[i - off]? else cs[i]? := by
  induction vs generalizing cs off with
  | nil => simp only [putAt, List.length_nil, Nat.add_zero]; rw [if_neg (by omega)]
  | cons v r ih =>
    simp only [List.length_cons] at hle ⊢
    rw [putAt, ih _ _ (by simp; omega)]
    by_cases hi : off = i
    · subst hi
      rw [if_neg (by omega), if_pos ⟨Nat.le_refl _, by omega⟩, List.getElem?_set_self (by omega)]
      simp
    · by_cases hin : off + 1 ≤ i ∧ i < off + 1 + r.length
      · rw [if_pos hin, if_pos (by omega), show i - off = (i - (off + 1)) + 1 by omega, List.getElem?_cons_succ]
      · rw [if_neg hin, if_neg (by omega)]
        simp [hi]

theorem fill_ok {place : Nat → Option (Nat × Nat)} : ∀ (ps : List (Nat × V)) (qs : List (Nat × Value)) (cs cs' : List V) (arr : Array Value),
    ps.length = qs.length → (∀ (i : Nat) (p : Nat × V) (q : Nat × Value), ps[i]? = some p → qs[i]? = some q → p.1 = q.1 ∧ R m h w p.2 q.2) → PW m h w cs arr → fillV place cs ps = some cs' →
    ∃ arr', Instr.fill place arr qs = some arr' ∧ PW m h w cs' arr'
  | [], [], cs, cs', arr, _, _, hp, hf => by simp [fillV] at hf; subst hf; exact ⟨arr, rfl, hp⟩
  | (i, v) :: ps, (j, u) :: qs, cs, cs', arr, hl, hr, hp, hf => by
    obtain ⟨hij, hru⟩ := hr 0 (i, v) (j, u) rfl rfl
    simp only at hij hru
    subst hij
    simp only [fillV] at hf
    split at hf
    · rename_i off s vs hpl hcv
      split at hf
      · rename_i hc
        simp only [Bool.and_eq_true, decide_eq_true_eq] at hc
        obtain ⟨h1, h2⟩ := hc
        obtain ⟨⟨hsz, hrv⟩, _⟩ := cellsOf_R hcv hru
        obtain ⟨g1, g2⟩ := Great.foldl_set off u.cells.toList 0 arr
        have hp' : PW m h w (putAt cs off vs) ((u.cells.toList.zipIdx 0).foldl (fun cs (x : Value × Nat) => cs.setIfInBounds (off + x.2) x.1) arr) := by
          refine ⟨by rw [g1, putAt_length, hp.1], fun k c x hk hx => ?_⟩
          rw [putAt_get cs off vs k (by omega)] at hk
          rw [g2 k] at hx
          simp only [Nat.add_zero, Array.length_toList] at hx
          by_cases hin : off ≤ k ∧ k < off + vs.length
          · rw [if_pos hin] at hk
            rw [if_pos ⟨hin.1, by rw [hsz]; exact hin.2, by rw [hp.1]; omega⟩] at hx
            exact hrv (k - off) c x hk (by simpa using hx)
          · rw [if_neg hin] at hk
            rw [if_neg (by rw [hsz]; omega)] at hx
            exact hp.2 k c x hk hx
        obtain ⟨arr', ha, hpa⟩ := fill_ok ps qs _ cs' _ (by simpa using hl) (fun k p q hp hq => hr (k + 1) p q (by simpa using hp) (by simpa using hq)) hp' hf
        refine ⟨arr', ?_, hpa⟩
        unfold Instr.fill
        simp only [hpl]
        rw [if_neg (by rw [hsz, hp.1]; simp; omega)]
        rw [← ha]
        congr 1
        rw [← Array.foldl_toList, Array.toList_zipIdx]
      · cases hf
    · cases hf
  | [], _ :: _, _, _, _, hl, _, _, _ => by simp at hl
  | _ :: _, [], _, _, _, hl, _, _, _ => by simp at hl

theorem evParts_R {fr : List V} {a : Act} (f : FR m h w fr a) : ∀ {ps : List (Nat × Operand)} {xs : List (Nat × V)}, evParts fr ps = some xs →
    xs.length = (ps.map fun (i, x) => (i, a.eval x)).length ∧ ∀ (i : Nat) (p : Nat × V) (q : Nat × Value), xs[i]? = some p → (ps.map fun (i, x) => (i, a.eval x))[i]? = some q → p.1 = q.1 ∧ R m h w p.2 q.2
  | [], xs, hx => by simp [evParts] at hx; subst hx; simp
  | (j, x) :: ps, xs, hx => by
    simp only [evParts] at hx
    split at hx
    · rename_i v hv
      split at hx
      · rename_i vs hvs
        cases hx
        obtain ⟨hl, ih⟩ := evParts_R f hvs
        refine ⟨by simpa using hl, fun i p q hp hq => ?_⟩
        cases i with
        | zero => simp at hp hq; subst hp hq; exact ⟨rfl, ev_R f hv⟩
        | succ i => exact ih i p q (by simpa using hp) (by simpa using hq)
      · cases hx
    · cases hx

theorem PW.single {z : V} {v : Value} (hr : R m h w z v) (hz : vcells z = [z]) (hv : v.cells = #[v]) : PW m h w (vcells z) v.cells := by
  rw [hz, hv]
  refine ⟨rfl, fun i c u hc hu => ?_⟩
  cases i with
  | zero => simp at hc hu; subst hc hu; exact hr
  | succ i => simp at hc

theorem zero_PW {z : V} {v : Value} (hz : ofVal v = some z) : PW m h w (vcells z) v.cells := by
  have hr : R m h w z v := ofVal_R hz
  unfold ofVal at hz
  split at hz
  · simp only [Option.map_eq_some_iff] at hz
    obtain ⟨xs, hx, rfl⟩ := hz
    cases hr with
    | agg hl hr => exact ⟨hl, hr⟩
  · split at hz
    · cases hz; exact .single hr rfl rfl
    · cases hz
  · unfold ofLeaf at hz
    split at hz <;> first | (cases hz; exact .single hr rfl rfl) | cases hz

theorem run_places_list : ∀ (l : List Field), (l.all fun f => (szOf P f.type).isSome) = true →
    ∃ pl : List (Nat × Nat), (l.mapM fun f => do pure (f.offset, ← sizeOf f.type) : Sem (List (Nat × Nat))).run P w = .ok pl w ∧
      ∀ i : Nat, pl[i]? = (l[i]?).bind fun (f : Field) => (szOf P f.type).map fun s => (f.offset, s)
  | [], _ => ⟨[], by simp, by simp⟩
  | f :: l, hall => by
    simp only [List.all_cons, Bool.and_eq_true, Option.isSome_iff_exists] at hall
    obtain ⟨⟨s, hs⟩, hrest⟩ := hall
    obtain ⟨pl, hpl, hget⟩ := run_places_list l hrest
    refine ⟨(f.offset, s) :: pl, ?_, fun i => ?_⟩
    · simp only [List.mapM_cons, Sem.run_bind, run_sizeOf' hs, Result.andThen_ok, Sem.run_pure, hpl]
    · cases i with
      | zero => simp [hs]
      | succ i => simpa using hget i

theorem run_places (fields : Array Field) (hall : allSized P fields = true) :
    ∃ pl : Array (Nat × Nat), (fields.mapM fun f => do pure (f.offset, ← sizeOf f.type) : Sem (Array (Nat × Nat))).run P w = .ok pl w ∧ (fun i => pl[i]?) = placesOf P fields := by
  obtain ⟨l⟩ := fields
  obtain ⟨pl, hpl, hget⟩ := run_places_list (P := P) (w := w) l hall
  refine ⟨pl.toArray, ?_, ?_⟩
  · rw [List.mapM_toArray, Sem.run_map, hpl]; rfl
  · funext i
    simp only [List.getElem?_toArray, hget i, placesOf]
    cases hl : l[i]? with
    | none => simp
    | some f => cases hs : szOf P f.type <;> simp [hs]

theorem build_ok {t : TypeId} {ps : List (Nat × V)} {qs : List (Nat × Value)} {y : V}
    (hl : ps.length = qs.length) (hr : ∀ (i : Nat) (p : Nat × V) (q : Nat × Value), ps[i]? = some p → qs[i]? = some q → p.1 = q.1 ∧ R m h w p.2 q.2) (hy : buildV P t ps = some y) :
    ∃ v, (Instr.build t qs.toArray).run P w = .ok v w ∧ R m h w y v := by
  unfold buildV at hy
  split at hy
  · rename_i z fields hz hu
    obtain ⟨zv, hzr, hzo, _⟩ := run_zeroValue' hz w
    have hzp : PW m h w z zv.cells := zero_PW hzo
    split at hy
    · rename_i hall
      simp only [Option.map_eq_some_iff] at hy
      obtain ⟨cs', hf, rfl⟩ := hy
      obtain ⟨pl, hpl, hple⟩ := run_places (P := P) (w := w) fields hall
      rw [← hple] at hf
      obtain ⟨arr', ha, hpa⟩ := fill_ok ps qs z cs' zv.cells hl hr hzp hf
      exact ⟨.agg arr', by simp only [Instr.build, Sem.run_bind, hzr, Result.andThen_ok, run_underlying hu, hpl, ha]; rfl, .agg hpa.1 hpa.2⟩
    · cases hy
  · rename_i z n elem hz hu
    obtain ⟨zv, hzr, hzo, _⟩ := run_zeroValue' hz w
    have hzp : PW m h w z zv.cells := zero_PW hzo
    split at hy
    · rename_i s hs
      simp only [Option.map_eq_some_iff] at hy
      obtain ⟨cs', hf, rfl⟩ := hy
      obtain ⟨arr', ha, hpa⟩ := fill_ok ps qs z cs' zv.cells hl hr hzp hf
      exact ⟨.agg arr', by simp only [Instr.build, Sem.run_bind, hzr, Result.andThen_ok, run_underlying hu, run_sizeOf' hs, ha]; rfl, .agg hpa.1 hpa.2⟩
    · cases hy
  · cases hy
end
end Go.Ab
