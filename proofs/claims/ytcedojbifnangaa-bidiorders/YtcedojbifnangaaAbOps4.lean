/- Comparisons, shifts, literals of structs. -/
import Derived.Test.YtcedojbifnangaaAbOps3
import Derived.Laws.StructEq
namespace Go.Ab

section
variable {P : Program} {m : Mu} {h : Heap} {w : World}

theorem leafEq_run {d : Nat} {t : TypeId} {x y : V} {xv yv : Value} {b : Bool} (hx : R m h w x xv) (hy : R m h w y yv) (hb : leafEq P t x y = some b) :
    (Op.equalIn (d + 1) t xv yv).run P w = .ok b w ∧ isAg P t = some false := by
  unfold leafEq at hb
  split at hb
  · rename_i k' k a k2 b2 hu
    cases hx; cases hy
    split at hb
    · rename_i hkk; subst hkk; cases hb
      exact ⟨run_equalIn_int w d t _ k' _ _ hu, by simp [isAg, hu]⟩
    · cases hb
  · rename_i a b2 hu; cases hx; cases hy; cases hb; exact ⟨run_equalIn_bool' w d t _ _ hu, by simp [isAg, hu]⟩
  · rename_i a b2 hu; cases hx; cases hy; cases hb; exact ⟨run_equalIn_string w d t _ _ hu, by simp [isAg, hu]⟩
  · cases hb

theorem flatEq_run {d : Nat} {X Y : Array Value} : ∀ (i : Nat) (fs : List Field) (xs ys : List V) (b : Bool),
    (∀ (j : Nat) (c : V), xs[j]? = some c → ∃ v, X[i + j]? = some v ∧ R m h w c v) → (∀ (j : Nat) (c : V), ys[j]? = some c → ∃ v, Y[i + j]? = some v ∧ R m h w c v) →
    flatEq P i fs xs ys = some b → (Op.eqFields (d + 1) X Y fs).run P w = .ok b w
  | i, [], [], [], b, _, _, hb => by simp [flatEq] at hb; subst hb; simp [Op.eqFields]
  | i, f :: fs, a :: x, c :: y, b, hX, hY, hb => by
    simp only [flatEq] at hb
    split at hb
    · rename_i hc
      simp only [Bool.and_eq_true, decide_eq_true_eq, Bool.not_eq_true', beq_eq_false_iff_ne] at hc
      obtain ⟨hoff, hname⟩ := hc
      obtain ⟨xv, hxv, hxr⟩ := hX 0 a rfl
      obtain ⟨yv, hyv, hyr⟩ := hY 0 c rfl
      rw [Nat.add_zero] at hxv hyv
      have step : ∀ r, leafEq P f.type a c = some r → (Op.eqFields (d + 1) X Y (f :: fs)).run P w = if (!r) = true then .ok false w else (Op.eqFields (d + 1) X Y fs).run P w := by
        intro r hr
        obtain ⟨h1, h2⟩ := leafEq_run (d := d) hxr hyr hr
        have p1 : (Go.part f.type X f.offset).run P w = .ok xv w := by simp [Go.part, run_isAgg' h2, hoff, hxv]
        have p2 : (Go.part f.type Y f.offset).run P w = .ok yv w := by simp [Go.part, run_isAgg' h2, hoff, hyv]
        simp [Op.eqFields, hname, p1, p2, h1]
      split at hb
      · rename_i hr
        rw [step true hr]
        simp only [Bool.not_true, Bool.false_eq_true, if_false]
        exact flatEq_run (i + 1) fs x y b (fun j c' hj => by have := hX (j + 1) c' (by simpa using hj); rwa [show i + 1 + j = i + (j + 1) by omega])
          (fun j c' hj => by have := hY (j + 1) c' (by simpa using hj); rwa [show i + 1 + j = i + (j + 1) by omega]) hb
      · rename_i hr
        cases hb
        rw [step false hr]
        simp
      · cases hb
    · cases hb
  | _, [], [], _ :: _, _, _, _, hb => by simp [flatEq] at hb
  | _, [], _ :: _, _, _, _, _, hb => by simp [flatEq] at hb
  | _, _ :: _, [], _, _, _, _, hb => by simp [flatEq] at hb
  | _, _ :: _, _ :: _, [], _, _, _, hb => by simp [flatEq] at hb

theorem agg_at {cs : List V} {vs : Array Value} (hl : vs.size = cs.length) (hr : ∀ (i : Nat) (c : V) (v : Value), cs[i]? = some c → vs[i]? = some v → R m h w c v) :
    ∀ (j : Nat) (c : V), cs[j]? = some c → ∃ v, vs[0 + j]? = some v ∧ R m h w c v := by
  intro j c hj
  have hlt : j < vs.size := by rw [hl]; exact (List.getElem?_eq_some_iff.1 hj).1
  rw [Nat.zero_add]
  exact ⟨vs[j], Array.getElem?_eq_getElem hlt, hr j c _ hj (Array.getElem?_eq_getElem hlt)⟩

theorem equalIn_nils {d : Nat} {t e : TypeId} (hu : P.underlying t = some (.slice e)) : (Op.equalIn (d + 1) t (.slice none 0 0) (.slice none 0 0)).run P w = .ok true w := by
  simp [Op.equalIn, run_underlying hu]

theorem equalIn_notnil {d : Nat} {t e : TypeId} {a : Addr} {n c : Nat} (hu : P.underlying t = some (.slice e)) : (Op.equalIn (d + 1) t (.slice (some a) n c) (.slice none 0 0)).run P w = .ok false w := by
  simp [Op.equalIn, run_underlying hu]

theorem equalIn_nilp {d : Nat} {t e : TypeId} (hu : P.underlying t = some (.pointer e)) : (Op.equalIn (d + 1) t (.pointer none) (.pointer none)).run P w = .ok true w := by
  simp [Op.equalIn, run_underlying hu]

theorem eqV_run {t : TypeId} {x y : V} {xv yv : Value} {b : Bool} (hx : R m h w x xv) (hy : R m h w y yv) (hb : eqV P t x y = some b) :
    (Op.equal t xv yv).run P w = .ok b w ∧ (∀ op ox oy, (eqGuard op t ox oy xv yv).run P w = .ok () w) ∧ (∀ k a, xv ≠ .int k a) ∧ (∀ k a, xv ≠ .float k a) ∧ (∀ k a c, xv ≠ .complex k a c) ∧ ∀ s, xv ≠ .string s := by
  unfold eqV at hb
  split at hb
  · rename_i xs ys
    split at hb
    · rename_i fields hu
      split at hb
      · rename_i hc
        simp only [Bool.and_eq_true, Bool.not_eq_true'] at hc
        cases hx with
        | agg hl hr => cases hy with
          | agg hl' hr' =>
            have hf : P.fieldsOf t = fields := by simp [Program.fieldsOf, hu]
            have := flatEq_run (d := 9998) (P := P) (w := w) 0 fields.toList xs ys b (agg_at hl hr) (agg_at hl' hr') hb
            refine ⟨?_, fun op ox oy => run_eqGuard_agg w op t ox oy _ _ hc.2, by simp, by simp, by simp, by simp⟩
            rw [Op.equal, Op.maxDepth, run_equalIn_struct w 9999 t _ _ (by rw [hf]; exact hu) hc.1, hf]
            exact this
      · cases hb
    · cases hb
  · cases hx; cases hy
    split at hb
    · rename_i hu; cases hb
      exact ⟨by rw [Op.equal, Op.maxDepth]; exact run_equalIn_bool' w 9999 t _ _ hu, fun op ox oy => by cases op <;> simp [eqGuard], by simp, by simp, by simp, by simp⟩
    · cases hb
  · cases hx; cases hy
    split at hb
    · rename_i e hu; cases hb
      exact ⟨by rw [Op.equal, Op.maxDepth]; exact equalIn_notnil (d := 9999) hu, fun op ox oy => by cases op <;> simp [eqGuard], by simp, by simp, by simp, by simp⟩
    · cases hb
  · cases hx; cases hy
    split at hb
    · rename_i e hu; cases hb
      exact ⟨by rw [Op.equal, Op.maxDepth]; exact equalIn_notnil (d := 9999) hu, fun op ox oy => by cases op <;> simp [eqGuard], by simp, by simp, by simp, by simp⟩
    · cases hb
  · cases hx; cases hy
    split at hb
    · rename_i e hu; cases hb
      exact ⟨by rw [Op.equal, Op.maxDepth]; exact equalIn_nils (d := 9999) hu, fun op ox oy => by cases op <;> simp [eqGuard], by simp, by simp, by simp, by simp⟩
    · cases hb
  · cases hx; cases hy
    split at hb
    · rename_i e hu; cases hb
      exact ⟨by rw [Op.equal, Op.maxDepth]; exact equalIn_nilp (d := 9999) hu, fun op ox oy => by cases op <;> simp [eqGuard], by simp, by simp, by simp, by simp⟩
    · cases hb
  · cases hb

theorem eqGuard_scalar {op : BinOp} {t : TypeId} {ox oy : Operand} {xv yv : Value} (hx : (∃ k a, xv = .int k a) ∨ ∃ s, xv = .string s) : (eqGuard op t ox oy xv yv).run P w = .ok () w := by
  rcases hx with ⟨k, a, rfl⟩ | ⟨s, rfl⟩ <;> cases op <;> simp [eqGuard]

theorem bin_ok {op : BinOp} {t : TypeId} {x y z : V} {xv yv : Value} {ox oy : Operand} (hx : R m h w x xv) (hy : R m h w y yv) (hz : binV P op t x y = some z) :
    ∃ v, (do eqGuard op t ox oy xv yv; binOp op t xv yv : Sem Value).run P w = .ok v w ∧ R m h w z v := by
  unfold binV at hz
  split at hz
  · cases hx; cases hy
    split at hz
    · cases hz
    · rename_i hb; cases hz
      exact ⟨_, by rw [Sem.run_bind, eqGuard_scalar (.inl ⟨_, _, rfl⟩)]; simp only [Result.andThen_ok, binOp, Op.shift, if_neg hb]; rfl, .int _ _⟩
  · cases hx; cases hy
    split at hz
    · cases hz
    · rename_i hb; cases hz
      exact ⟨_, by rw [Sem.run_bind, eqGuard_scalar (.inl ⟨_, _, rfl⟩)]; simp only [Result.andThen_ok, binOp, Op.shift, if_neg hb]; rfl, .int _ _⟩
  · rename_i k a k' b hn1 hn2
    cases hx; cases hy
    split at hz
    · rename_i hk; subst hk
      obtain ⟨v, hv, hr⟩ := intBin_ok (P := P) (m := m) (h := h) (w := w) hz ⟨hn1, hn2⟩ t
      exact ⟨v, by rw [Sem.run_bind, eqGuard_scalar (.inl ⟨_, _, rfl⟩)]; exact hv, hr⟩
    · cases hz
  · cases hx; cases hy
    obtain ⟨v, hv, hr⟩ := strBin_ok (P := P) (m := m) (h := h) (w := w) hz t
    exact ⟨v, by rw [Sem.run_bind, eqGuard_scalar (.inr ⟨_, rfl⟩)]; exact hv, hr⟩
  · split at hz
    · rename_i b hb
      cases hz
      obtain ⟨h1, h2, n1, n2, n3, n4⟩ := eqV_run hx hy hb
      refine ⟨.bool b, ?_, .bool _⟩
      rw [Sem.run_bind, h2]
      simp only [Result.andThen_ok]
      cases xv <;> first | exact absurd rfl (n1 _ _) | exact absurd rfl (n2 _ _) | exact absurd rfl (n3 _ _ _) | exact absurd rfl (n4 _) | simp [binOp, h1]
    · cases hz
  · split at hz
    · rename_i b hb
      cases hz
      obtain ⟨h1, h2, n1, n2, n3, n4⟩ := eqV_run hx hy hb
      refine ⟨.bool !b, ?_, .bool _⟩
      rw [Sem.run_bind, h2]
      simp only [Result.andThen_ok]
      cases xv <;> first | exact absurd rfl (n1 _ _) | exact absurd rfl (n2 _ _) | exact absurd rfl (n3 _ _ _) | exact absurd rfl (n4 _) | simp [binOp, h1]
    · cases hz
  · cases hz
end
end Go.Ab
