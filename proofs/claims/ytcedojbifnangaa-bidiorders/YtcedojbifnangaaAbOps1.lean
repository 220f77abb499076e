/- Operations that read: what the evaluator says of them is what the model does. -/
import Derived.Test.YtcedojbifnangaaAbRel
import Derived.Laws.Cells
import Derived.Laws.AppendOwn
namespace Go.Ab

section
variable {P : Program} {m : Mu} {h : Heap} {w : World}

theorem szOf_info {t : TypeId} {s : Nat} (hs : szOf P t = some s) : ∃ i, P.info? t = some i ∧ i.size = s := by
  unfold szOf at hs
  simpa [Option.map_eq_some_iff] using hs

theorem run_sizeOf' {t : TypeId} {s : Nat} (hs : szOf P t = some s) (w : World) : (sizeOf t).run P w = .ok s w := by
  obtain ⟨i, hi, rfl⟩ := szOf_info hs
  simp [sizeOf, typeInfo, hi]

theorem run_isAgg' {t : TypeId} {b : Bool} (hb : isAg P t = some b) (w : World) : (isAgg t).run P w = .ok b w := by
  unfold isAg at hb
  split at hb
  · rename_i d hd; cases hb; simp [isAgg, run_underlying hd]
  · rename_i d hd; cases hb; simp [isAgg, run_underlying hd]
  · rename_i d hn1 hn2 hd
    cases hb
    simp only [isAgg, Sem.run_bind, run_underlying hd, Result.andThen_ok]
    cases d <;> first | rfl | exact absurd rfl (hn1 _) | exact absurd rfl (hn2 _ _)
  · cases hb

theorem run_zeroValue' {t : TypeId} {z : V} (hz : zeroOf P t = some z) (w : World) : ∃ v, (zeroValue t).run P w = .ok v w ∧ ofVal v = some z ∧ (P.info? t).bind (·.zero) = some v := by
  unfold zeroOf at hz
  split at hz
  · rename_i i hi
    split at hz
    · rename_i v hv
      exact ⟨v, by simp [zeroValue, typeInfo, hi, hv], hz, by simp [hi, hv]⟩
    · cases hz
  · cases hz

/-- The cells cs lie in the world from b, o on. -/
def Pt (m : Mu) (h : Heap) (w : World) (b o : Nat) (cs : List V) : Prop := ∀ (i : Nat) (c : V), cs[i]? = some c → ∃ v, w.cell? ⟨b, o + i, none⟩ = some v ∧ R m h w c v

theorem add_lit (b o n : Nat) : (⟨b, o, none⟩ : Addr).add n = ⟨b, o + n, none⟩ := by unfold Addr.add; split <;> simp_all

/-- A pointer that the evaluator can look through: where it leads. -/
theorem R.ptr_at {x off : Nat} {v : Value} {cs : List V} (r : Rel m h w) (hv : R m h w (.ptr x off) v) (hb : blockOf h x = some cs) :
    ∃ b arr T, m x = some b ∧ v = .pointer (some ⟨b, off, none⟩) ∧ w.heap[b]? = some (.cells arr T (0, 0)) ∧ cs.length ≤ arr.size ∧ Pt m h w b 0 cs := by
  have hc := live_of_blockOf hb
  cases hv with
  | ptr hlt hv =>
    obtain ⟨b, hmb, rfl⟩ := hv ⟨cs, hc⟩
    obtain ⟨arr, T, ha, hl, hr⟩ := (r.blk x cs b hc hmb).cells (notMap_of_blockOf hb)
    refine ⟨b, arr, T, hmb, rfl, ha, hl, fun i c hic => ?_⟩
    obtain ⟨u, hu, hru⟩ := hr i c hic
    exact ⟨u, by simp [World.cell?, ha, hu], hru⟩

theorem R.lptr_at {cs : List V} {off : Nat} {v : Value} (hv : R m h w (.lptr cs off) v) : ∃ b o, v = .pointer (some ⟨b, o + off, none⟩) ∧ Pt m h w b o cs := by
  cases hv with
  | lptr rv hi hc hf hr => exact ⟨_, _, rfl, fun i c hic => ⟨rv i, hc i c hic, hr i c hic⟩⟩

theorem part_load {b o off : Nat} {cs : List V} {t : TypeId} {x : V} (hp : Pt m h w b o cs) (hx : part P t cs off = some x) :
    ∃ v, (loadVar t ⟨b, o + off, none⟩).run P w = .ok v w ∧ R m h w x v := by
  unfold part at hx
  split at hx
  · rename_i hag
    split at hx
    · rename_i s hs
      split at hx
      · rename_i hle
        cases hx
        have hall : ∀ j, j < s → ∃ v, w.cell? (Addr.add ⟨b, o + off, none⟩ j) = some v ∧ ∀ c, cs[off + j]? = some c → R m h w c v := by
          intro j hj
          have hlt : off + j < cs.length := by omega
          obtain ⟨v, hv, hr⟩ := hp (off + j) cs[off + j] (List.getElem?_eq_getElem hlt)
          refine ⟨v, by rw [add_lit, Nat.add_assoc]; exact hv, fun c hc => ?_⟩
          rw [List.getElem?_eq_getElem hlt] at hc
          cases hc; exact hr
        let f : Nat → Value := fun j => if hj : j < s then Classical.choose (hall j hj) else undef
        have hf : ∀ j, j < s → w.cell? (Addr.add ⟨b, o + off, none⟩ j) = some (f j) := fun j hj => by
          simp only [f, hj, dite_true]; exact (Classical.choose_spec (hall j hj)).1
        have hf2 : ∀ j, j < s → ∀ c, cs[off + j]? = some c → R m h w c (f j) := fun j hj => by
          simp only [f, hj, dite_true]; exact (Classical.choose_spec (hall j hj)).2
        refine ⟨.agg ((List.range s).map f).toArray, ?_, .agg (by simp; omega) ?_⟩
        · simp [loadVar, run_isAgg' hag, run_sizeOf' hs, run_loadCells w _ s f hf]
        · intro i c v hc hv
          rw [List.getElem?_take] at hc
          split at hc
          · rename_i his
            rw [List.getElem?_drop] at hc
            simp [his] at hv
            subst hv
            exact hf2 i his c hc
          · cases hc
      · cases hx
    · cases hx
  · rename_i hag
    obtain ⟨v, hv, hr⟩ := hp off x hx
    refine ⟨v, ?_, hr⟩
    simp [loadVar, run_isAgg' hag, hv]
  · cases hx

theorem load_ok {t : TypeId} {p x : V} {pv : Value} (r : Rel m h w) (hp : R m h w p pv) (hx : loadV P h t p = some x) :
    ∃ v, (Instr.loadAt t pv).run P w = .ok v w ∧ R m h w x v := by
  unfold loadV at hx
  split at hx
  · rename_i y off
    split at hx
    · rename_i cs hb
      obtain ⟨b, arr, T, _, rfl, _, _, hpt⟩ := hp.ptr_at r hb
      obtain ⟨v, hv, hr⟩ := part_load hpt hx
      rw [Nat.zero_add] at hv
      exact ⟨v, by simp [Instr.loadAt, Instr.sureAddr, hv], hr⟩
    · cases hx
  · rename_i cs off
    obtain ⟨b, o, rfl, hpt⟩ := hp.lptr_at
    obtain ⟨v, hv, hr⟩ := part_load hpt hx
    exact ⟨v, by simp [Instr.loadAt, Instr.sureAddr, hv], hr⟩
  · cases hx

theorem R.lptr_off {cs : List V} {off : Nat} {v : Value} (d : Nat) (hv : R m h w (.lptr cs off) v) : ∃ a, v = .pointer (some a) ∧ R m h w (.lptr cs (off + d)) (.pointer (some (a.add d))) := by
  cases hv with
  | lptr rv hi hc hf hr => exact ⟨_, rfl, by rw [add_lit, Nat.add_assoc]; exact .lptr rv hi hc hf hr⟩

theorem add_add_lit {b off d : Nat} {a : Addr} (ha : a = ⟨b, off, none⟩) : a.add d = ⟨b, off + d, none⟩ := by subst ha; exact add_lit _ _ _

/-- A pointer moved on within its block. -/
theorem R.ptr_off {x off : Nat} {v : Value} (d : Nat) (hv : R m h w (.ptr x off) v) : ∃ a, v = .pointer (some a) ∧ R m h w (.ptr x (off + d)) (.pointer (some (a.add d))) := by
  cases hv with
  | ptr hlt hv =>
    refine ⟨_, rfl, .ptr hlt fun hl => ?_⟩
    obtain ⟨b, hb, ha⟩ := hv hl
    exact ⟨b, hb, add_add_lit ha⟩
end
end Go.Ab
