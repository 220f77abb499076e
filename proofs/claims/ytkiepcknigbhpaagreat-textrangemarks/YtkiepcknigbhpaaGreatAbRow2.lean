/- Rows of pairs of integers that come in, as the evaluator has them. -/
import Derived.Test.YtkiepcknigbhpaaGreatAbRow
import Derived.Deep.SlicePairs
namespace Go.Ab
open Go.RowKit Go.Deep

/-- A slice of pairs of integers that came in. -/
def IsPairs (w : World) (a : Option Addr) (len : Nat) (zs : List (Int × Int)) : Prop :=
  zs.length = len ∧ (len = 0 ∨ ∃ x, a = some x ∧ ∀ (i : Nat) (z : Int × Int), zs[i]? = some z → w.cell? (x.add (i * 2)) = some (.int .i64 z.1) ∧ w.cell? (x.add (i * 2 + 1)) = some (.int .i64 z.2))

theorem isPairs_R {w : World} {a : Option Addr} {len cap : Nat} {zs : List (Int × Int)} (h : IsPairs w a len zs) (hcap : len ≤ cap) : R noMu [] w (.lst (zs.map fun z => [.int .i64 z.1, .int .i64 z.2])) (.slice a len cap) := by
  obtain ⟨hl, h⟩ := h
  by_cases h0 : len = 0
  · subst h0
    obtain rfl : zs = [] := List.length_eq_zero_iff.1 hl
    exact .lst0 _ _
  · obtain ⟨x, rfl, hcell⟩ := h.resolve_left h0
    obtain ⟨b, off, spot⟩ := x
    have hz0 : zs[0]? = some zs[0] := List.getElem?_eq_getElem (by omega)
    have hc0 := (hcell 0 _ hz0).1
    have hspot : spot = none := by simpa [Addr.add] using World.cell?_spot hc0
    subst hspot
    have hc : ∀ (i : Nat) (z : Int × Int), zs[i]? = some z → w.cell? ⟨b, off + i * 2, none⟩ = some (.int .i64 z.1) ∧ w.cell? ⟨b, off + i * 2 + 1, none⟩ = some (.int .i64 z.2) := fun i z hz => by
      obtain ⟨h1, h2⟩ := hcell i z hz
      refine ⟨?_, ?_⟩
      · by_cases h0 : i = 0
        · subst h0; simpa [Addr.add] using h1
        · have h2 : i * 2 ≠ 0 := by omega
          simpa [Addr.add, h2] using h1
      · simpa [Addr.add, Nat.add_assoc] using h2
    have hlt : b < w.heap.size := cell_lt (hc 0 _ hz0).1
    have hlen : (zs.map fun z => [V.int .i64 z.1, V.int .i64 z.2]).length = len := by simp [hl]
    have key : ∀ (i : Nat) (e : List V), (zs.map fun z => [V.int .i64 z.1, V.int .i64 z.2])[i]? = some e → ∃ z, zs[i]? = some z ∧ e = [.int .i64 z.1, .int .i64 z.2] := by
      intro i e he
      rw [List.getElem?_map] at he
      cases hz : zs[i]? with
      | none => rw [hz] at he; cases he
      | some z => rw [hz] at he; cases he; exact ⟨z, rfl, rfl⟩
    have := R.lst (m := noMu) (h := []) (w := w) (xs := zs.map fun z => [V.int .i64 z.1, V.int .i64 z.2]) (b := b) (o := off) (k := 2) (rc := cap) (fun i j => .int .i64 (if j = 0 then (zs.getD i (0, 0)).1 else (zs.getD i (0, 0)).2))
      ⟨hlt, fun h => h, fun x hx => by obtain ⟨cs, hc⟩ := hx; simp at hc⟩ (by rw [hlen]; exact hcap)
      (fun i e he => by obtain ⟨z, _, rfl⟩ := key i e he; rfl)
      (fun i e j c he hj => by
        obtain ⟨z, hz, rfl⟩ := key i e he
        have hg : zs.getD i (0, 0) = z := by rw [List.getD_eq_getElem?_getD, hz]; rfl
        rw [hg]
        match j, hj with
        | 0, _ => simpa using (hc i z hz).1
        | 1, _ => simpa using (hc i z hz).2
        | j + 2, hj => simp at hj)
      (fun i e j c he hj => by
        obtain ⟨z, hz, rfl⟩ := key i e he
        match j, hj with
        | 0, hj => simp at hj; subst hj; rfl
        | 1, hj => simp at hj; subst hj; rfl
        | j + 2, hj => simp at hj)
      (fun i e j c he hj => by
        obtain ⟨z, hz, rfl⟩ := key i e he
        have hg : zs.getD i (0, 0) = z := by rw [List.getD_eq_getElem?_getD, hz]; rfl
        rw [hg]
        match j, hj with
        | 0, hj => simp at hj; subst hj; exact .int _ _
        | 1, hj => simp at hj; subst hj; exact .int _ _
        | j + 2, hj => simp at hj)
    rwa [hlen] at this

theorem open_pairs {H : Type} {enc : TypeId × Value → H} {P : Program} {w : World} {base : Nat} {spare : Nat → Bool} {held : Bool} {t e : TypeId} {f0 f1 : Field} {fuel : Nat} {v : Value} {x : DataW H × List MemPlace} (ht : P.underlying t = some (.slice e)) (he : P.underlying e = some (.struct #[f0, f1]))
    (ce : P.cellsOf e = 2) (o0 : f0.offset = 0) (o1 : f1.offset = 1) (c0 : P.cellsOf f0.type = 1) (c1 : P.cellsOf f1.type = 1) (u0 : P.underlying f0.type = some (.int .i64)) (u1 : P.underlying f1.type = some (.int .i64))
    (h : DataW.trod enc P w base spare held fuel t [v] = some x) : ∃ (a : Option Addr) (len cap : Nat) (zs : List (Int × Int)), v = .slice a len cap ∧ len ≤ cap ∧ IsPairs w a len zs := by
  rcases open_slice_pairs ht he ce o0 o1 c0 c1 h with ⟨hv, _⟩ | ⟨a, len, cap, m, n, V0, V1, D0, D1, P0, P1, hv, _, hl, _, hm, _, hx⟩
  · simp only [List.cons.injEq, and_true] at hv
    exact ⟨none, 0, 0, [], hv, Nat.le_refl _, rfl, .inl rfl⟩
  · simp only [List.cons.injEq, and_true] at hv
    have hlm : len ≤ m := by rw [hm]; split <;> omega
    obtain ⟨z, hz⟩ := choose_lt (α := Int × Int) (p := fun i z => w.cell? (a.add (i * 2)) = some (.int .i64 z.1) ∧ w.cell? (a.add (i * 2 + 1)) = some (.int .i64 z.2)) (fun i hi => by
      obtain ⟨h1, h2, h3, h4⟩ := hx i hi
      obtain ⟨p, e1, _, _⟩ := DataW.trod_int u0 h3
      obtain ⟨q, e2, _, _⟩ := DataW.trod_int u1 h4
      simp only [List.cons.injEq, and_true] at e1 e2
      exact ⟨(p, q), by rw [h1, e1], by rw [h2, e2]⟩)
    refine ⟨some a, len, cap, (List.range len).map z, hv, hl, by simp, .inr ⟨a, rfl, fun i y hy => ?_⟩⟩
    rw [List.getElem?_map] at hy
    by_cases hi : i < len
    · rw [List.getElem?_range hi] at hy
      cases hy
      exact hz i (by omega)
    · rw [List.getElem?_eq_none (by simpa using hi)] at hy
      cases hy
end Go.Ab
