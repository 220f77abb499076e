/- Several slices of the function's own at once. -/
import Derived.Test.YtcedojbifnangaaAbW4
namespace Go.Ab

/-- The block of a slice. -/
def blkOf : V → Option Nat
  | .sl b _ _ _ _ => some b
  | _ => none

/-- Two slices in two blocks. -/
def Dj (v d : V) : Prop := ∀ b, blkOf v = some b → blkOf d ≠ some b

theorem Dj.nils {v : V} : Dj v .nils := fun _ _ h => by cases h
theorem Dj.symm {v d : V} (h : Dj v d) : Dj d v := fun b h1 h2 => h b h2 h1

section
variable {P : Program} {md : FuncId → Nat} {call : Callf} {cfg : Cfg} {n : Nat}
theorem wS_app2 {dst : Option Tmp} {fr : List V} {ops : Array Oper} {rest : List Oper} {Q : KontO} {h : Heap} {d : V} {l : List Int} {lo y : Nat} {k : IntKind} {x : Int} (ho : OwnL h lo k d l) (hlo : cfg.lo ≤ lo) (hH : lo ≤ h.length)
    (hsz : (l.length + 1) * y ≤ 1099511627776) (hlen : l.length + 1 ≤ 1099511627776)
    (H : ∀ d' h', OwnL h' lo k d' (l ++ [x]) → h'.take lo = h.take lo → lo ≤ h'.length → h.length ≤ h'.length → (∀ v, Dj v d → (∀ b, blkOf v = some b → b < h.length) → Dj v d' ∧ ∀ b, blkOf v = some b → blockOf h' b = blockOf h b) → @wO P md call cfg ⟨ops⟩ ⟨rest⟩ (put fr dst d') h' ⟨Q⟩) :
    @wS P md call cfg ⟨dst⟩ ⟨fr⟩ (appD cfg h 1 y d 1 [.int k x]) ⟨ops⟩ ⟨rest⟩ ⟨Q⟩ := by
  rcases ho with ⟨rfl, rfl⟩ | ⟨b, rfl, h1, hb⟩
  · rw [appD_nils (by simpa using hsz) (by omega) (by omega), wS_some]
    refine H _ _ (.inr ⟨h.length, by simp, hH, by simp⟩) ?_ (by simp; omega) (by simp) ?_
    · rw [List.take_append_of_le_length hH]
    · intro v _ hv
      refine ⟨fun c hc h2 => ?_, fun c hc => blockOf_left (hv c hc)⟩
      simp only [blkOf, Option.some.injEq] at h2
      have := hv c hc
      omega
  · have hbl := blockOf_lt hb
    have hw : cfg.wr b = true := by simp [Cfg.wr]; left; omega
    rw [appD_grow hb hw hsz hlen (by omega) (by simp), wS_some]
    refine H _ _ (.inr ⟨h.length, by simp, hH, ?_⟩) ?_ (by simp; omega) (by simp) ?_
    · simp only [Nat.mul_one]
      rw [List.take_of_length_le (by simp)]
      simp
      exact isMap_intsA rfl
    · rw [List.take_append_of_le_length (by simp; exact hH), List.take_set_of_le h1]
    · intro v hd hv
      refine ⟨fun c hc h2 => ?_, fun c hc => ?_⟩
      · simp only [blkOf, Option.some.injEq] at h2
        have := hv c hc
        omega
      · have hne : b ≠ c := fun e => hd c hc (by rw [e]; rfl)
        rw [blockOf_left (by simpa using hv c hc), blockOf_set_ne' hne]
end

theorem OwnL.blk {h : Heap} {lo : Nat} {k : IntKind} {v : V} {l : List Int} (ho : OwnL h lo k v l) {b : Nat} (hb : blkOf v = some b) : lo ≤ b ∧ b < h.length := by
  rcases ho with ⟨rfl, rfl⟩ | ⟨c, rfl, h1, hc⟩
  · cases hb
  · cases hb; exact ⟨h1, blockOf_lt hc⟩
theorem OwnL.of_blk {h h' : Heap} {lo : Nat} {k : IntKind} {v : V} {l : List Int} (ho : OwnL h lo k v l) (hh : ∀ b, blkOf v = some b → blockOf h' b = blockOf h b) : OwnL h' lo k v l := by
  rcases ho with ⟨rfl, rfl⟩ | ⟨c, rfl, h1, hc⟩
  · exact .inl ⟨rfl, rfl⟩
  · exact .inr ⟨c, rfl, h1, by rw [hh c rfl]; exact hc⟩

/-- The heap is as it was, but for one block, and what came behind. -/
def Upd (h : Heap) (b : Nat) (cs : List V) (H : Heap) : Prop := H.take h.length = h.set b (some cs) ∧ h.length ≤ H.length

theorem Upd.refl {h : Heap} {b : Nat} {cs : List V} (hb : blockOf h b = some cs) : Upd h b cs h := by
  refine ⟨?_, Nat.le_refl _⟩
  rw [List.take_length]
  exact (set_same hb).symm
theorem Upd.block {h H : Heap} {b : Nat} {cs : List V} (hu : Upd h b cs H) (hb : b < h.length) (hm : isMap cs = false) : blockOf H b = some cs := by
  have h1 : H[b]? = (H.take h.length)[b]? := by rw [List.getElem?_take_of_lt hb]
  unfold blockOf
  rw [h1, hu.1, List.getElem?_set_self hb]
  simp [hm]
theorem Upd.set {h H : Heap} {b : Nat} {cs cs' : List V} (hu : Upd h b cs H) : Upd h b cs' (H.set b (some cs')) := by
  refine ⟨?_, by simpa using hu.2⟩
  rw [List.take_set, hu.1]
  simp
theorem Upd.push {h H : Heap} {b : Nat} {cs : List V} (hu : Upd h b cs H) (x : Heap) : Upd h b cs (H ++ x) := by
  refine ⟨?_, by have := hu.2; simp; omega⟩
  rw [List.take_append_of_le_length hu.2, hu.1]
theorem Upd.of_take {h H H' : Heap} {b : Nat} {cs : List V} (hu : Upd h b cs H) (ht : H'.take h.length = H.take h.length) (hl : h.length ≤ H'.length) : Upd h b cs H' := ⟨ht.trans hu.1, hl⟩
end Go.Ab
