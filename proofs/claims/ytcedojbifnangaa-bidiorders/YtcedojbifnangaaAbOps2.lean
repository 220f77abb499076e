/- Operations that only compute. -/
import Derived.Test.YtcedojbifnangaaAbOps1
namespace Go.Ab

section
variable {P : Program} {m : Mu} {h : Heap} {w : World}

theorem fieldAddr_ok {s : TypeId} {f : Nat} {p x : V} {pv : Value} (hp : R m h w p pv) (hx : fieldAddrV P s p f = some x) :
    ∃ v, (Instr.fieldAt s pv f).run P w = .ok v w ∧ R m h w x v := by
  unfold fieldAddrV at hx
  split at hx
  · rename_i fields hu
    split at hx
    · rename_i fd hfd
      split at hx
      · rename_i n hs
        have hsz := run_sizeOf' hs w
        split at hx
        · rename_i y off
          cases hx
          obtain ⟨a, rfl, hr⟩ := hp.ptr_off fd.offset
          exact ⟨_, by simp [Instr.fieldAt, run_underlying hu, hfd, Instr.sureAddr, fieldPlace, hsz], hr⟩
        · rename_i cs off
          cases hx
          obtain ⟨a, rfl, hr⟩ := hp.lptr_off fd.offset
          exact ⟨_, by simp [Instr.fieldAt, run_underlying hu, hfd, Instr.sureAddr, fieldPlace, hsz], hr⟩
        · cases hx
      · cases hx
    · cases hx
  · cases hx

theorem agg_part {t : TypeId} {cs : List V} {vs : Array Value} {off : Nat} {x : V} (hl : vs.size = cs.length) (hr : ∀ (i : Nat) (c : V) (v : Value), cs[i]? = some c → vs[i]? = some v → R m h w c v)
    (hx : part P t cs off = some x) : ∃ v, (Go.part t vs off).run P w = .ok v w ∧ R m h w x v := by
  unfold part at hx
  split at hx
  · rename_i hag
    split at hx
    · rename_i s hs
      split at hx
      · rename_i hle
        cases hx
        refine ⟨.agg (vs.extract off (off + s)), by simp [Go.part, run_isAgg' hag, run_sizeOf' hs], .agg ?_ ?_⟩
        · simp; omega
        · intro i c v hc hv
          rw [List.getElem?_take] at hc
          split at hc
          · rename_i his
            rw [List.getElem?_drop] at hc
            rw [Array.getElem?_extract] at hv
            split at hv
            · exact hr (off + i) c v hc hv
            · cases hv
          · cases hc
      · cases hx
    · cases hx
  · rename_i hag
    have hlt : off < vs.size := by rw [hl]; exact (List.getElem?_eq_some_iff.1 hx).1
    refine ⟨vs[off], by simp [Go.part, run_isAgg' hag, hlt], hr off x _ hx (Array.getElem?_eq_getElem hlt)⟩
  · cases hx

theorem field_ok {t : TypeId} {f : Nat} {p x : V} {pv : Value} (hp : R m h w p pv) (hx : fieldV P t p f = some x) :
    ∃ v, (Instr.field t pv f).run P w = .ok v w ∧ R m h w x v := by
  unfold fieldV at hx
  split at hx
  · rename_i fields hu
    split at hx
    · rename_i fd hfd
      split at hx
      · cases hp with
        | agg hl hr =>
          obtain ⟨v, hv, hrv⟩ := agg_part hl hr hx
          exact ⟨v, by simp [Instr.field, run_underlying hu, hfd, asAgg, hv], hrv⟩
      · cases hx
    · cases hx
  · cases hx

theorem lt_of_toNat {n : Int} {len : Nat} (h0 : 0 ≤ n) (h1 : n.toNat < len) : n < (len : Int) := by omega

theorem indexAddr_ok {t : TypeId} {x i y : V} {xv iv : Value} (hx : R m h w x xv) (hi : R m h w i iv) (hy : indexAddrV P t x i = some y) :
    ∃ v, (Instr.indexAt t xv iv).run P w = .ok v w ∧ R m h w y v := by
  unfold indexAddrV at hy
  split at hy
  · rename_i k n
    cases hi
    split at hy
    · rename_i h0
      split at hy
      · rename_i elem hu
        split at hy
        · rename_i s b off len cap k' hs
          split at hy
          · rename_i hc
            simp only [Bool.and_eq_true, decide_eq_true_eq, beq_iff_eq] at hc
            obtain ⟨hlt, rfl⟩ := hc
            cases hy
            have hlt' := lt_of_toNat h0 hlt
            cases hx with
            | sl hlt hcap hlen hv =>
              rename_i rc a
              refine ⟨.pointer (some (a.add (n.toNat * s))), by simp [Instr.indexAt, asIntOf, run_underlying hu, h0, hlt', run_sizeOf' hs], .ptr hlt fun hl => ?_⟩
              obtain ⟨b, hb, ha, _⟩ := hv hl
              exact ⟨b, hb, add_add_lit ha⟩
          · cases hy
        · rename_i s xs hs
          split at hy
          · rename_i e he
            split at hy
            · rename_i hes
              cases hy
              have hlt : n.toNat < xs.length := (List.getElem?_eq_some_iff.1 he).1
              have hlt' := lt_of_toNat h0 hlt
              cases hx with
              | lst0 a rc => simp at hlt
              | lst rv him hrc hk hc hf hr =>
                rename_i b o k2 rc
                obtain rfl : s = k2 := by rw [← hes]; exact hk _ _ he
                refine ⟨.pointer (some (Addr.add ⟨b, o, none⟩ (n.toNat * s))), by simp [Instr.indexAt, asIntOf, run_underlying hu, h0, hlt', run_sizeOf' hs], ?_⟩
                rw [add_lit]
                exact .lptr (o := o + n.toNat * s) (off := 0) (rv n.toNat) him (fun j c hj => hc _ _ j c he hj) (fun j c hj => hf _ _ j c he hj) (fun j c hj => hr _ _ j c he hj)
            · cases hy
          · cases hy
        · cases hy
      · rename_i len elem hu
        split at hy
        · rename_i s b off hs
          split at hy
          · rename_i hlt
            cases hy
            have hlt' := lt_of_toNat h0 hlt
            obtain ⟨a, rfl, hr⟩ := hx.ptr_off (n.toNat * s)
            exact ⟨_, by simp [Instr.indexAt, asIntOf, run_underlying hu, h0, hlt', run_sizeOf' hs, Instr.sureAddr], hr⟩
          · cases hy
        · rename_i s cs off hs
          split at hy
          · rename_i hlt
            cases hy
            have hlt' := lt_of_toNat h0 hlt
            obtain ⟨a, rfl, hr⟩ := hx.lptr_off (n.toNat * s)
            exact ⟨_, by simp [Instr.indexAt, asIntOf, run_underlying hu, h0, hlt', run_sizeOf' hs, Instr.sureAddr], hr⟩
          · cases hy
        · cases hy
      · cases hy
    · cases hy
  · cases hy
end
end Go.Ab
