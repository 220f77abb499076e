/- clear. -/
import Derived.Test.YtcedojbifnangaaAbOps9
namespace Go.Ab
section
variable {P : Program} {m : Mu} {h : Heap} {w : World}

theorem zeroCells_get {z : Array Value} {n q : Nat} (hq : q < n * z.size) : (Builtin.zeroCells z n)[q]? = z[q % z.size]? := by
  have hs : 0 < z.size := by
    rcases Nat.eq_zero_or_pos z.size with h | h
    · rw [h] at hq; omega
    · exact h
  have hm : q % z.size < z.size := Nat.mod_lt _ hs
  simp [Builtin.zeroCells, hq, hm]

theorem clear_ok (r : Rel m h w) {cfg : Cfg} {t ty : TypeId} {x : V} {xv : Value} {h' : Heap} (hx : R m h w x xv) (hy : clearV P cfg h t x = some h') :
    ∃ v w', (Builtin.clear_ #[t] ty #[xv]).run P w = .ok v w' ∧ Out m h w (.tup []) h' v w' := by
  have nothing : ∀ {a : Option Addr} {c : Nat}, h' = h → (∃ e, P.underlying t = some (.slice e)) → xv = .slice a 0 c → ∃ v w', (Builtin.clear_ #[t] ty #[xv]).run P w = .ok v w' ∧ Out m h w (.tup []) h' v w' := by
    rintro a c rfl ⟨e, hu⟩ rfl
    refine ⟨.tuple #[], w, ?_, .same r (.tup rfl fun i c v h => by simp at h)⟩
    cases a <;> simp [Builtin.clear_, run_underlying hu]
  unfold clearV at hy
  split at hy
  · rename_i e hu
    cases hy; cases hx
    exact nothing rfl ⟨_, hu⟩ rfl
  · rename_i e hu
    cases hy
    generalize hl : ([] : List (List V)) = l at hx
    cases hx with
    | lst0 a rc => exact nothing rfl ⟨_, hu⟩ rfl
    | lst rv hi hrc hk hc hf hr => subst hl; exact nothing rfl ⟨_, hu⟩ rfl
  · rename_i elem b off len cap k hu
    split at hy
    · rename_i hl
      subst hl
      cases hy; cases hx
      exact nothing rfl ⟨_, hu⟩ rfl
    · rename_i hl
      split at hy
      · rename_i s z hs hz
        split at hy
        · rename_i hc
          simp only [Bool.and_eq_true, decide_eq_true_eq, beq_iff_eq] at hc
          obtain ⟨⟨⟨rfl, hzl⟩, hs0⟩, hlf⟩ := hc
          obtain ⟨zv, hzr, hzo, _⟩ := run_zeroValue' hz w
          have hpz := zero_PW (m := m) (h := h) (w := w) hzo
          obtain ⟨cs, hb⟩ : ∃ cs, blockOf h b = some cs := by
            unfold storeCellsV at hy
            split at hy
            · rename_i cs hb; exact ⟨cs, hb⟩
            · cases hy
          obtain ⟨rb, rc, arr, T, hmb, rfl, _, _, _, _, _, _⟩ := hx.sl_at r hb
          have hzs : zv.cells.size = s := by rw [hpz.1, hzl]
          have hus : (Builtin.zeroCells zv.cells len).size = len * s := by rw [size_zeroCells, hzs]
          have hrr : ∀ (i : Nat) (c : V) (u : Value), (zerosFor (vcells z) len)[i]? = some c → (Builtin.zeroCells zv.cells len).toList[i]? = some u → R m h w c u := by
            intro i c u hc hu'
            rw [zerosFor_get hzl hs0] at hc
            split at hc
            · rename_i hlt
              simp only [Array.getElem?_toList] at hu'
              rw [zeroCells_get (by rw [hzs]; exact hlt), hzs] at hu'
              exact hpz.2 _ c u hc hu'
            · cases hc
          have hlen : (Builtin.zeroCells zv.cells len).toList.length = (zerosFor (vcells z) len).length := by
            rw [zerosFor_length, hzl]; simpa using hus
          have h1 : ∀ u ∈ (Builtin.zeroCells zv.cells len).toList, u.oneCell' = true := by
            refine all_one (m := m) (h := h) (w := w) (new := zerosFor (vcells z) len) ?_ hlen hrr
            rw [List.all_eq_true] at hlf ⊢
            intro c hc
            obtain ⟨i, hi, rfl⟩ := List.getElem_of_mem hc
            have h2 := List.getElem?_eq_getElem hi
            rw [zerosFor_get hzl hs0] at h2
            split at h2
            · exact hlf _ (List.mem_of_getElem? h2)
            · cases h2
          obtain ⟨w', hrun, e, r'⟩ := storeCells_ok (P := P) r hmb hb hy hlen hrr h1
          refine ⟨.tuple #[], w', ?_, m, e, r', .tup rfl fun i c v h => by simp at h⟩
          cases len with
          | zero => exact absurd rfl hl
          | succ len => simp [Builtin.clear_, run_underlying hu, hzr, hrun]
        · cases hy
      · cases hy
  · cases hy
end
end Go.Ab
