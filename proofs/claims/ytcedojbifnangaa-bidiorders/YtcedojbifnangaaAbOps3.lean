/- Operations that only compute: the second part. -/
import Derived.Test.YtcedojbifnangaaAbOps2
namespace Go.Ab

section
variable {P : Program} {m : Mu} {h : Heap} {w : World}

theorem index_ok {t : TypeId} {x i y : V} {xv iv : Value} (hx : R m h w x xv) (hi : R m h w i iv) (hy : indexV P t x i = some y) :
    ∃ v, (Instr.index t xv iv).run P w = .ok v w ∧ R m h w y v := by
  unfold indexV at hy
  split at hy
  · rename_i k n
    cases hi
    split at hy
    · rename_i h0
      split at hy
      · rename_i len elem cs hu
        split at hy
        · rename_i s hs
          split at hy
          · rename_i hlt
            have hlt' := lt_of_toNat h0 hlt
            cases hx with
            | agg hl hr =>
              obtain ⟨v, hv, hrv⟩ := agg_part hl hr hy
              exact ⟨v, by simp [Instr.index, asIntOf, run_underlying hu, h0, hlt', run_sizeOf' hs, hv], hrv⟩
          · cases hy
        · cases hy
      · rename_i s hu
        split at hy
        · rename_i b hb
          cases hy
          cases hx
          exact ⟨.int .u8 b.toNat, by simp [Instr.index, asIntOf, run_underlying hu, h0, hb], .int _ _⟩
        · cases hy
      · cases hy
    · cases hy
  · cases hy

theorem bound_run {d y r : Nat} {c : BoundsCode} {o : Option (Option V)} {ov : Option Value} (hb : boundV d o = some r) (hr : ∀ x v, o = some (some x) → ov = some v → R m h w x v) (hs : o.isSome = ov.isSome) (hle : r ≤ y) :
    (o = none ∧ ov = none ∧ r = d) ∨ ∃ v, ov = some v ∧ (Instr.sliceBound v y c).run P w = .ok r w := by
  unfold boundV at hb
  split at hb
  · cases hb; cases ov with
    | none => exact .inl ⟨rfl, rfl, rfl⟩
    | some v => simp at hs
  · rename_i k n
    split at hb
    · rename_i h0
      cases hb
      cases ov with
      | none => simp at hs
      | some v =>
        refine .inr ⟨v, rfl, ?_⟩
        have := hr _ v rfl rfl
        cases this
        have h1 : n ≤ (y : Int) := by omega
        simp [Instr.sliceBound, asIntOf, h0, h1]
    · cases hb
  · cases hb

theorem bounds_run {isS : Bool} {len cap l r : Nat} {lo hi : Option (Option V)} {lov hiv : Option Value}
    (hl : boundV 0 lo = some l) (hh : boundV len hi = some r)
    (hrl : ∀ x v, lo = some (some x) → lov = some v → R m h w x v) (hrh : ∀ x v, hi = some (some x) → hiv = some v → R m h w x v)
    (hsl : lo.isSome = lov.isSome) (hsh : hi.isSome = hiv.isSome) (hlr : l ≤ r) (hrc : r ≤ cap) :
    (Instr.sliceBounds isS len cap lov hiv none).run P w = .ok (l, r, cap) w := by
  rcases bound_run (P := P) (w := w) (c := if isS then .sliceAcap else .sliceAlen) hh hrh hsh hrc with ⟨rfl, rfl, rfl⟩ | ⟨v, rfl, hv⟩
  · rcases bound_run (P := P) (w := w) (c := .sliceB) hl hrl hsl hlr with ⟨rfl, rfl, rfl⟩ | ⟨u, rfl, hu⟩
    · simp [Instr.sliceBounds]
    · simp [Instr.sliceBounds, hu]
  · rcases bound_run (P := P) (w := w) (c := .sliceB) hl hrl hsl hlr with ⟨rfl, rfl, rfl⟩ | ⟨u, rfl, hu⟩
    · simp [Instr.sliceBounds, hv]
    · simp [Instr.sliceBounds, hv, hu]

theorem R.lst_slice {xs : List (List V)} {v : Value} (hv : R m h w (.lst xs) v) (l r : Nat) (hlr : l ≤ r) (hr : r ≤ xs.length) (s : Nat) (hsz : l = r ∨ (xs[l]?).map List.length = some s) :
    ∃ a rc, v = .slice a xs.length rc ∧ r ≤ rc ∧ R m h w (.lst ((xs.take r).drop l)) (.slice (if rc = l then a else a.map (·.add (l * s))) (r - l) (rc - l)) := by
  by_cases hlr' : l = r
  · subst hlr'
    have : (xs.take l).drop l = [] := by simp
    rw [this, Nat.sub_self]
    cases hv with
    | lst0 a rc => exact ⟨a, rc, rfl, by simp at hr; omega, .lst0 _ _⟩
    | lst rv him hrc hk hc hf hr' => exact ⟨_, _, rfl, by omega, .lst0 _ _⟩
  · have hs := hsz.resolve_left hlr'
    cases hv with
    | lst0 a rc => simp at hs
    | lst rv him hrc hk hc hf hr' =>
      rename_i b o k rc
      refine ⟨_, _, rfl, by omega, ?_⟩
      have hne : ¬ rc = l := by omega
      simp only [Option.map_eq_some_iff] at hs
      obtain ⟨e, he, hel⟩ := hs
      obtain rfl : s = k := by rw [← hel]; exact hk _ _ he
      rw [if_neg hne]
      simp only [Option.map_some, add_lit]
      have hlen : ((xs.take r).drop l).length = r - l := by simp; omega
      have hget : ∀ (i : Nat) (e : List V), ((xs.take r).drop l)[i]? = some e → xs[l + i]? = some e := by
        intro i e he
        rw [List.getElem?_drop, List.getElem?_take] at he
        split at he
        · exact he
        · cases he
      rw [← hlen]
      refine .lst (k := s) (fun i j => rv (l + i) j) him (by omega) (fun i e he => hk _ _ (hget i e he)) ?_ (fun i e j c he hj => hf _ _ j c (hget i e he) hj) (fun i e j c he hj => hr' _ _ j c (hget i e he) hj)
      intro i e j c he hj
      have := hc _ _ j c (hget i e he) hj
      rw [show o + l * s + i * s + j = o + (l + i) * s + j by rw [Nat.add_mul]; omega]
      exact this

theorem slice_ok {t : TypeId} {x y : V} {xv : Value} {lo hi : Option (Option V)} {lov hiv : Option Value} (rel : Rel m h w) (hx : R m h w x xv)
    (hrl : ∀ x v, lo = some (some x) → lov = some v → R m h w x v) (hrh : ∀ x v, hi = some (some x) → hiv = some v → R m h w x v)
    (hsl : lo.isSome = lov.isSome) (hsh : hi.isSome = hiv.isSome) (hy : sliceV P h t x lo hi = some y) :
    ∃ v, (Instr.sliceAt t xv lov hiv none).run P w = .ok v w ∧ R m h w y v := by
  unfold sliceV at hy
  split at hy
  · rename_i elem b off len cap k hu
    split at hy
    · rename_i s l r hs hl hr
      split at hy
      · rename_i hc
        simp only [Bool.and_eq_true, decide_eq_true_eq] at hc
        obtain ⟨⟨⟨rfl, h1⟩, h2⟩, h3⟩ := hc
        cases hx with
        | sl hlt hcap hlen hv =>
          rename_i rc a
          have hbd := bounds_run (P := P) (isS := true) (cap := rc) hl hr hrl hrh hsl hsh h1 (by omega)
          have hrun : (Instr.sliceAt t (.slice (some a) len rc) lov hiv none).run P w = .ok (.slice (if rc = l then some a else some (a.add (l * s))) (r - l) (rc - l)) w := by
            simp [Instr.sliceAt, Instr.slice, run_underlying hu, hbd, run_sizeOf' hs]
          refine ⟨_, hrun, ?_⟩
          split at hy
          · rename_i hl0
            subst hl0
            cases hy
            have : (if rc = 0 then some a else some (a.add (0 * s))) = some a := by simp [Addr.add]
            rw [this]
            simp only [Nat.sub_zero]
            exact .sl hlt hcap (by omega) hv
          · rename_i hl0
            split at hy
            · rename_i hlr
              subst hlr
              cases hy
              rw [Nat.sub_self]
              exact .lst0 _ _
            · rename_i hlr
              cases hy
              have hne : ¬ rc = l := by omega
              rw [if_neg hne]
              refine .sl hlt (by omega) (by omega) fun hlv => ?_
              obtain ⟨b', hb', ha, hsz⟩ := hv hlv
              refine ⟨b', hb', add_add_lit ha, ?_⟩
              have h4 : (rc - l) * s + l * s = rc * s := by rw [← Nat.add_mul]; congr 1; omega
              omega
      · cases hy
    · cases hy
  · rename_i elem xs hu
    split at hy
    · rename_i s l r hs hl hr
      split at hy
      · rename_i hc
        simp only [Bool.and_eq_true, decide_eq_true_eq, Bool.or_eq_true, beq_iff_eq] at hc
        obtain ⟨⟨h1, h2⟩, h3⟩ := hc
        cases hy
        obtain ⟨a, rc, rfl, hrc, hres⟩ := hx.lst_slice l r h1 h2 s h3
        have hbd := bounds_run (P := P) (isS := true) (cap := rc) hl hr hrl hrh hsl hsh h1 hrc
        exact ⟨_, by simp [Instr.sliceAt, Instr.slice, run_underlying hu, hbd, run_sizeOf' hs], hres⟩
      · cases hy
    · cases hy
  · rename_i elem hu
    split at hy
    · rename_i s hs hl hr
      cases hy
      cases hx
      have hbd := bounds_run (P := P) (isS := true) (cap := 0) hl hr hrl hrh hsl hsh (Nat.le_refl _) (Nat.le_refl _)
      exact ⟨.slice none 0 0, by simp [Instr.sliceAt, Instr.slice, run_underlying hu, hbd, run_sizeOf' hs], .nils⟩
    · cases hy
  · rename_i s hu
    split at hy
    · rename_i l r hl hr
      split at hy
      · rename_i hc
        simp only [Bool.and_eq_true, decide_eq_true_eq] at hc
        obtain ⟨h1, h2⟩ := hc
        cases hy
        cases hx
        have hbd := bounds_run (P := P) (isS := false) (cap := s.size) hl hr hrl hrh hsl hsh h1 h2
        exact ⟨.string (s.extract l r), by simp [Instr.sliceAt, Instr.slice, run_underlying hu, hbd], .str _⟩
      · cases hy
    · cases hy
  · rename_i n elem b off hu
    split at hy
    · rename_i s hs
      split at hy
      · rename_i cs hb
        split at hy
        · rename_i hle
          cases hy
          obtain ⟨b', arr, T, hmb, rfl, ha, hl, _⟩ := hx.ptr_at rel hb
          have hbd := bounds_run (P := P) (m := m) (h := h) (w := w) (isS := false) (cap := n) (len := n) (lo := none) (hi := none) (l := 0) (r := n) (lov := lov) (hiv := hiv) rfl rfl hrl hrh hsl hsh (Nat.zero_le _) (Nat.le_refl _)
          refine ⟨.slice (some ⟨b', off, none⟩) n n, ?_, .sl (live_lt ⟨cs, live_of_blockOf hb⟩) (Nat.le_refl _) (Nat.le_refl _) fun _ => ⟨b', hmb, rfl, ?_⟩⟩
          · simp [Instr.sliceAt, run_underlying hu, hbd, run_sizeOf' hs, Instr.sureAddr, Addr.add]
          · simp only [rsz, ha]; omega
        · cases hy
      · cases hy
    · cases hy
  · cases hy

theorem intBin_ok {op : BinOp} {k : IntKind} {a b : Int} {y : V} (hy : intBin op k a b = some y) (hop : op ≠ .shl ∧ op ≠ .shr) (t : TypeId) :
    ∃ v, (binOp op t (.int k a) (.int k b)).run P w = .ok v w ∧ R m h w y v := by
  cases op <;> simp only [intBin] at hy
  case shl => cases hy
  case shr => cases hy
  case quo =>
    split at hy
    · cases hy
    · rename_i hb; cases hy; exact ⟨_, by simp [binOp, Op.intDiv, hb], .int _ _⟩
  case rem =>
    split at hy
    · cases hy
    · rename_i hb; cases hy; exact ⟨_, by simp [binOp, Op.intDiv, hb], .int _ _⟩
  case and => cases hy; exact ⟨_, by simp only [binOp, ne_eq, not_true_eq_false, if_false]; rfl, .int _ _⟩
  case or => cases hy; exact ⟨_, by simp only [binOp, ne_eq, not_true_eq_false, if_false]; rfl, .int _ _⟩
  case xor => cases hy; exact ⟨_, by simp only [binOp, ne_eq, not_true_eq_false, if_false]; rfl, .int _ _⟩
  case andNot => cases hy; exact ⟨_, by simp only [binOp, ne_eq, not_true_eq_false, if_false]; rfl, .int _ _⟩
  case add => cases hy; exact ⟨_, by simp [binOp, Op.intArith], .int _ _⟩
  case sub => cases hy; exact ⟨_, by simp [binOp, Op.intArith], .int _ _⟩
  case mul => cases hy; exact ⟨_, by simp [binOp, Op.intArith], .int _ _⟩
  all_goals
    cases hy
    exact ⟨_, by simp [binOp, Op.intCmp], .bool _⟩

theorem strBin_ok {op : BinOp} {a b : ByteArray} {y : V} (hy : strBin op a b = some y) (t : TypeId) :
    ∃ v, (binOp op t (.string a) (.string b)).run P w = .ok v w ∧ R m h w y v := by
  cases op <;> simp only [strBin] at hy
  case add =>
    split at hy
    · cases hy
    · rename_i hb; cases hy; exact ⟨.string (a ++ b), by simp only [binOp, Op.stringOp, if_neg hb]; rfl, .str _⟩
  all_goals first
    | cases hy; done
    | (cases hy; exact ⟨_, by simp only [binOp, Op.stringOp]; rfl, .bool _⟩)

theorem un_ok {op : UnOp} {x y : V} {xv : Value} (hx : R m h w x xv) (hy : unV op x = some y) : ∃ v, (Op.unary op xv).run P w = .ok v w ∧ R m h w y v := by
  unfold unV at hy
  split at hy
  · cases hx; cases hy; exact ⟨_, by simp [Op.unary, Op.intArith], .int _ _⟩
  · cases hx; simp only [intBin] at hy; cases hy; exact ⟨_, by simp only [Op.unary]; rfl, .int _ _⟩
  · cases hx; cases hy; exact ⟨_, by simp [Op.unary], .bool _⟩
  · cases hy

theorem nilCheck_ok {x y : V} {xv : Value} (hx : R m h w x xv) (hy : nilCheckV x = some y) : y = x ∧ ((∃ a, xv = .pointer (some a)) ∨ ∃ f a c, xv = .func (.func f) a c) := by
  unfold nilCheckV at hy
  split at hy
  · cases hy; cases hx; exact ⟨rfl, .inl ⟨_, rfl⟩⟩
  · cases hy; cases hx; exact ⟨rfl, .inl ⟨_, rfl⟩⟩
  · cases hy; cases hx; exact ⟨rfl, .inr ⟨_, _, _, rfl⟩⟩
  · cases hy

theorem extract_ok {x y : V} {i : Nat} {xv : Value} (hx : R m h w x xv) (hy : extractV x i = some y) : ∃ v, (Instr.extract xv i).run P w = .ok v w ∧ R m h w y v := by
  unfold extractV at hy
  split at hy
  · cases hx with
    | tup hl hr =>
      have hlt := (List.getElem?_eq_some_iff.1 hy).1
      rw [← hl] at hlt
      exact ⟨_, by simp [Instr.extract, hlt], hr i y _ hy (Array.getElem?_eq_getElem hlt)⟩
  · cases hy

theorem len_ok {t ty : TypeId} {x y : V} {xv : Value} (hx : R m h w x xv) (hy : lenV P t x = some y) : ∃ v, (Builtin.len_ #[t] ty #[xv]).run P w = .ok v w ∧ R m h w y v := by
  unfold lenV at hy
  split at hy
  · rename_i s hu; cases hx; cases hy; exact ⟨_, by simp [Builtin.len_, run_underlying hu, goInt], .int _ _⟩
  · rename_i e b off len cap k hu; cases hx; cases hy; exact ⟨_, by simp [Builtin.len_, run_underlying hu, goInt], .int _ _⟩
  · rename_i e xs hu
    cases hy
    cases hx with
    | lst0 a rc => exact ⟨_, by simp [Builtin.len_, run_underlying hu, goInt], .int _ _⟩
    | lst rv him hrc hk hc hf hr => exact ⟨_, by simp [Builtin.len_, run_underlying hu, goInt], .int _ _⟩
  · rename_i e hu; cases hx; cases hy; exact ⟨_, by simp [Builtin.len_, run_underlying hu, goInt], .int _ _⟩
  · rename_i n e hu; cases hy; exact ⟨_, by simp [Builtin.len_, run_underlying hu, goInt], .int _ _⟩
  · cases hy

theorem min_ok {ts : Array TypeId} {ty : TypeId} {xs : List V} {vs : List Value} {y : V} (hl : vs.length = xs.length) (hr : ∀ (i : Nat) (c : V) (v : Value), xs[i]? = some c → vs[i]? = some v → R m h w c v) (hy : minV xs = some y) :
    ∃ v, (Builtin.min_ ts ty vs.toArray).run P w = .ok v w ∧ R m h w y v := by
  unfold minV at hy
  split at hy
  · rename_i k a k' b
    cases hy
    match vs, hl with
    | [v1, v2], _ =>
      have r1 := hr 0 _ v1 rfl rfl
      have r2 := hr 1 _ v2 rfl rfl
      cases r1; cases r2
      exact ⟨_, by simp [Builtin.min_, Builtin.min2], .int _ _⟩
  · rename_i k a k' b k'' c
    cases hy
    match vs, hl with
    | [v1, v2, v3], _ =>
      have r1 := hr 0 _ v1 rfl rfl
      have r2 := hr 1 _ v2 rfl rfl
      have r3 := hr 2 _ v3 rfl rfl
      cases r1; cases r2; cases r3
      exact ⟨_, by simp [Builtin.min_, Builtin.min2], .int _ _⟩
  · cases hy

theorem max_ok {ts : Array TypeId} {ty : TypeId} {xs : List V} {vs : List Value} {y : V} (hl : vs.length = xs.length) (hr : ∀ (i : Nat) (c : V) (v : Value), xs[i]? = some c → vs[i]? = some v → R m h w c v) (hy : maxV xs = some y) :
    ∃ v, (Builtin.max_ ts ty vs.toArray).run P w = .ok v w ∧ R m h w y v := by
  unfold maxV at hy
  split at hy
  · rename_i k a k' b
    cases hy
    match vs, hl with
    | [v1, v2], _ =>
      have r1 := hr 0 _ v1 rfl rfl
      have r2 := hr 1 _ v2 rfl rfl
      cases r1; cases r2
      exact ⟨_, by simp [Builtin.max_, Builtin.max2], .int _ _⟩
  · rename_i k a k' b k'' c
    cases hy
    match vs, hl with
    | [v1, v2, v3], _ =>
      have r1 := hr 0 _ v1 rfl rfl
      have r2 := hr 1 _ v2 rfl rfl
      have r3 := hr 2 _ v3 rfl rfl
      cases r1; cases r2; cases r3
      exact ⟨_, by simp [Builtin.max_, Builtin.max2], .int _ _⟩
  · cases hy
end
end Go.Ab
