/- What comes in, as the evaluator has it. -/
import Derived.Test.YtcedojbifnangaaAbTop
import Derived.WalkKit
namespace Go.Ab
open Go.RowKit

/-- A slice of integers that came in: nil, or it leads to a row of cells. -/
def IsRow (k : IntKind) (w : World) (a : Option Addr) (len cap : Nat) (zs : List Int) : Prop :=
  (a = none ∧ len = 0 ∧ cap = 0 ∧ zs = []) ∨
  ∃ x, a = some x ∧ len ≤ cap ∧ cap ≤ maxLen ∧ zs.length = cap ∧ (∀ i, i < zs.length → w.cell? (x.add i) = some (.int k (zs.getD i 0))) ∧ ∀ n ∈ zs, (Lit.int k n).wf = true

theorem cell_lt {w : World} {b o : Nat} {v : Value} (h : w.cell? ⟨b, o, none⟩ = some v) : b < w.heap.size := by
  rcases Nat.lt_or_ge b w.heap.size with hb | hb
  · exact hb
  · simp [World.cell?, Array.getElem?_eq_none hb] at h

theorem isRow_R {k : IntKind} {w : World} {a : Option Addr} {len cap : Nat} {zs : List Int} (h : IsRow k w a len cap zs) : R noMu [] w (.lst ((zs.take len).map fun n => [.int k n])) (.slice a len cap) := by
  rcases h with ⟨rfl, rfl, rfl, rfl⟩ | ⟨x, rfl, hl, hm, hz, hcell, _⟩
  · exact .lst0 _ _
  · by_cases h0 : len = 0
    · subst h0; exact .lst0 _ _
    · obtain ⟨b, off, spot⟩ := x
      have hc0 := hcell 0 (by omega)
      have hspot : spot = none := by simpa [Addr.add] using World.cell?_spot hc0
      subst hspot
      have hc : ∀ i, i < cap → w.cell? ⟨b, off + i, none⟩ = some (.int k (zs.getD i 0)) := fun i hi => by
        have := hcell i (by omega)
        by_cases h0 : i = 0
        · subst h0; simpa [Addr.add] using this
        · simpa [Addr.add, h0] using this
      have hlt : b < w.heap.size := cell_lt (hc 0 (by omega))
      have hlen : ((zs.take len).map fun n => [V.int k n]).length = len := by simp; omega
      have key : ∀ (i : Nat) (e : List V), ((zs.take len).map fun n => [V.int k n])[i]? = some e → i < len ∧ e = [.int k (zs.getD i 0)] := by
        intro i e he
        have hi : i < len := by
          have := (List.getElem?_eq_some_iff.1 he).1
          omega
        refine ⟨hi, ?_⟩
        rw [List.getElem?_map, List.getElem?_take_of_lt hi, List.getElem?_eq_getElem (by omega : i < zs.length)] at he
        simp only [Option.map_some, Option.some.injEq] at he
        rw [← he, List.getD_eq_getElem?_getD, List.getElem?_eq_getElem (by omega : i < zs.length)]
        rfl
      have := R.lst (m := noMu) (h := []) (w := w) (xs := (zs.take len).map fun n => [V.int k n]) (b := b) (o := off) (k := 1) (rc := cap) (fun i _ => .int k (zs.getD i 0)) ⟨hlt, fun h => h, fun x hx => by obtain ⟨cs, hc⟩ := hx; simp at hc⟩ (by rw [hlen]; exact hl)
        (fun i e he => by rw [(key i e he).2]; rfl)
        (fun i e j c he hj => by
          obtain ⟨hi, rfl⟩ := key i e he
          match j, hj with
          | 0, _ => simpa using hc i (by omega)
          | j + 1, hj => simp at hj)
        (fun i e j c he hj => by
          obtain ⟨hi, rfl⟩ := key i e he
          match j, hj with
          | 0, hj => simp at hj; subst hj; rfl
          | j + 1, hj => simp at hj)
        (fun i e j c he hj => by
          obtain ⟨hi, rfl⟩ := key i e he
          match j, hj with
          | 0, hj => simp at hj; subst hj; exact .int _ _
          | j + 1, hj => simp at hj)
      rwa [hlen] at this

theorem pw_nil {m : Mu} {h : Heap} {w : World} : PW m h w [] #[] := ⟨rfl, by simp⟩
theorem pw_cons {m : Mu} {h : Heap} {w : World} {x : V} {v : Value} {xs : List V} {vs : List Value} (hr : R m h w x v) (ht : PW m h w xs vs.toArray) : PW m h w (x :: xs) (v :: vs).toArray := by
  refine ⟨by have := ht.1; simp at this ⊢; omega, fun i c u hc hu => ?_⟩
  cases i with
  | zero => simp at hc hu; subst hc hu; exact hr
  | succ i => exact ht.2 i c u (by simpa using hc) (by simpa using hu)
theorem agg_R {m : Mu} {h : Heap} {w : World} {cs : List V} {vs : List Value} (hp : PW m h w cs vs.toArray) : R m h w (.agg cs) (.agg vs.toArray) := .agg hp.1 hp.2
end Go.Ab
