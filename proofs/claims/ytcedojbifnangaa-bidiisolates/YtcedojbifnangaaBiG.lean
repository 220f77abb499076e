/- Several texts of this proof in one. -/
import Derived.Test.YtcedojbifnangaaAbW3
import Derived.Test.YtcedojbifnangaaBiFacts
/- More for simp: calls whose result is only described; slices that are the function's own. -/
namespace Go.Ab

@[simp] theorem ev_nilp {fr : List V} : ev fr (.const (.pointer none)) = some .nilp := rfl
@[simp] theorem ev_nilf {fr : List V} : ev fr (.const .nilFunc) = some .nilf := rfl
@[simp] theorem ev_nilm {fr : List V} : ev fr (.const (.map none)) = some .nilm := rfl

theorem set_same {h : Heap} {b : Nat} {cs : List V} (hb : blockOf h b = some cs) : h.set b (some cs) = h := by
  have := live_of_blockOf hb
  apply List.ext_getElem?
  intro i
  by_cases hi : b = i
  · subst hi
    rw [List.getElem?_set_self (blockOf_lt hb), this]
  · rw [List.getElem?_set_ne hi]
section
variable {P : Program} {md : FuncId → Nat} {cfg : Cfg} {n : Nat} {prim : FuncId → Option Prim}
theorem call0x {d : Nat} {f : FuncId} {fn : Func} {c : Code} {k : Nat} {rs : List ResultVar} {args : List V} {h : Heap} {Post : V → Prop} (hm : md f = 0) (hp : prim f = none) (hf : P.funcs[f]? = some fn) (hb : fn.body = some c) (hk : fn.ntmps = k)
    (hr : fn.results.toList = rs) (ha : args.all V.noref = true)
    (hw : @wC P md (callN P md prim n d) ⟨0, none, 0⟩ n ⟨c⟩ (args ++ List.replicate (k - args.length) .no) [] ⟨@kFn P ⟨rs⟩ ⟨fun r' h' => ∃ r, frz h' 0 6 r' = some r ∧ Post r⟩⟩) :
    ∃ r, callM md (callN P md prim n (d + 1)) cfg f args h = some (r, h) ∧ Post r := by
  obtain ⟨r', h', h1, r, h2, h3⟩ := callN_of hp hf hb hk hr hw
  exact ⟨r, by simp only [callM, hm, ha, if_true, h1, h2], h3⟩
theorem call1x {d : Nat} {f : FuncId} {fn : Func} {c : Code} {k : Nat} {rs : List ResultVar} {args : List V} {h : Heap} {Post : V → Heap → Prop} (hm : md f = 1) (hp : prim f = none) (hf : P.funcs[f]? = some fn) (hb : fn.body = some c) (hk : fn.ntmps = k)
    (hr : fn.results.toList = rs)
    (hw : @wC P md (callN P md prim n d) ⟨cfg.lo, cfg.ex, h.length⟩ n ⟨c⟩ (args ++ List.replicate (k - args.length) .no) h ⟨@kFn P ⟨rs⟩ ⟨fun r' h' => ∃ r, frz h' h.length 6 r' = some r ∧ Post r (h'.take h.length)⟩⟩) :
    ∃ r h2, callM md (callN P md prim n (d + 1)) cfg f args h = some (r, h2) ∧ Post r h2 := by
  obtain ⟨r', h', h1, r, h2, h3⟩ := callN_of hp hf hb hk hr hw
  exact ⟨r, _, by simp only [callM, hm, h1, h2], h3⟩
theorem call2x {d : Nat} {f : FuncId} {fn : Func} {c : Code} {k : Nat} {rs : List ResultVar} {args : List V} {h : Heap} {Post : V → Heap → Prop} (hm : md f = 2) (hp : prim f = none) (hf : P.funcs[f]? = some fn) (hb : fn.body = some c) (hk : fn.ntmps = k)
    (hr : fn.results.toList = rs)
    (hw : @wC P md (callN P md prim n d) cfg n ⟨c⟩ (args ++ List.replicate (k - args.length) .no) h ⟨@kFn P ⟨rs⟩ ⟨Post⟩⟩) :
    ∃ r h2, callM md (callN P md prim n (d + 1)) cfg f args h = some (r, h2) ∧ Post r h2 := by
  obtain ⟨r', h', h1, h2⟩ := callN_of hp hf hb hk hr hw
  exact ⟨r', h', by simp only [callM, hm, h1], h2⟩
end
@[simp] theorem elemsOf_sl {h : Heap} {b off len cap : Nat} : elemsOf h (.sl b off len cap 1) = (blockOf h b).bind fun cs => if off + len ≤ cs.length then some ((cs.drop off).take len) else none := by
  simp only [elemsOf]; cases blockOf h b with
  | none => rfl
  | some cs => simp
theorem bytesIn_ints : ∀ l : List Int, bytesIn (l.map (V.int .u8)) = some (l.map fun n => UInt8.ofNat n.toNat)
  | [] => rfl
  | x :: l => by simp [bytesIn, bytesIn_ints l]
theorem runesOf_len (s : ByteArray) : ∀ (n i : Nat), (runesOf s n i).length ≤ n
  | 0, _ => Nat.le_refl _
  | n + 1, i => by
    simp only [runesOf]
    split
    · have := runesOf_len s n (i + (Utf8.decode s i).2)
      simp only [List.length_cons]
      omega
    · simp

theorem mapM_frz_take {h : Heap} {n d : Nat} {k : IntKind} (l : List Int) (off len : Nat) : (((l.map (V.int k)).drop off).take len).mapM (frz h n (d + 1)) = some (((l.drop off).take len).map (V.int k)) := by
  rw [← List.map_drop, ← List.map_take]
  exact mapM_frz_ints _

/-- A part of a block of integers frozen. -/
theorem frz_part {h : Heap} {n d b off len cap : Nat} {k : IntKind} {l : List Int} (hb : blockOf h b = some (l.map (V.int k))) (hn : n ≤ b) (hl : off + len ≤ l.length) : frz h n (d + 2) (.sl b off len cap 1) = some (.lst (((l.drop off).take len).map fun x => [.int k x])) := by
  have e : ¬ b < n := by omega
  have hlen : ((l.drop off).take len).length = len := by simp; omega
  have e3 : chunk 1 len (((l.drop off).take len).map (V.int k)) = ((l.drop off).take len).map fun x => [V.int k x] := by
    have := chunk_one (((l.drop off).take len).map (V.int k))
    simp only [List.length_map, hlen, List.map_map] at this
    exact this
  have e4 : (((l.drop off).take len).map (V.int k)).all V.rf = true := by
    rw [List.all_eq_true]
    intro c hc
    obtain ⟨x, _, rfl⟩ := List.mem_map.1 hc
    rfl
  rw [frz_sl]
  simp only [e, if_false, hb, Nat.mul_one, mapM_frz_take, e3, e4, if_true]
  rw [if_pos (by simpa using hl)]
theorem frzA_part {h : Heap} {b off len cap : Nat} {k : IntKind} {l : List Int} (hb : blockOf h b = some (l.map (V.int k))) (hl : off + len ≤ l.length) : frzA h (.sl b off len cap 1) = some (.lst (((l.drop off).take len).map fun x => [.int k x])) := by
  unfold frzA
  rw [frz_part (d := 4) hb (Nat.zero_le _) hl]
  rfl

/-- A slice of integers that is the function's own: nil, or a block from lo on, whole. -/
def OwnL (h : Heap) (lo : Nat) (k : IntKind) (v : V) (l : List Int) : Prop := (v = .nils ∧ l = []) ∨ (∃ b, v = .sl b 0 l.length l.length 1 ∧ lo ≤ b ∧ blockOf h b = some (l.map (V.int k)))

theorem OwnL.frzA {h : Heap} {lo : Nat} {k : IntKind} {v : V} {l : List Int} (ho : OwnL h lo k v l) : frzA h v = some (.lst (l.map fun x => [.int k x])) := by
  rcases ho with ⟨rfl, rfl⟩ | ⟨b, rfl, _, hb⟩
  · rfl
  · rw [frzA_part hb (by omega)]
    simp
theorem OwnL.len {P : Program} {t e : TypeId} {h : Heap} {lo : Nat} {k : IntKind} {v : V} {l : List Int} (hu : P.underlying t = some (.slice e)) (ho : OwnL h lo k v l) : lenV P t v = some (.int .i64 l.length) := by
  rcases ho with ⟨rfl, rfl⟩ | ⟨b, rfl, _, hb⟩
  · exact lenN_eq hu
  · exact lenS_eq hu
theorem OwnL.mono {h h' : Heap} {lo : Nat} {k : IntKind} {v : V} {l : List Int} (ho : OwnL h lo k v l) (hh : ∀ b, lo ≤ b → b < h.length → blockOf h' b = blockOf h b) : OwnL h' lo k v l := by
  rcases ho with ⟨rfl, rfl⟩ | ⟨b, rfl, h1, hb⟩
  · exact .inl ⟨rfl, rfl⟩
  · exact .inr ⟨b, rfl, h1, by rw [hh b h1 (blockOf_lt hb)]; exact hb⟩

section
variable {P : Program} {md : FuncId → Nat} {call : Callf} {cfg : Cfg} {n : Nat}
theorem wS_app {dst : Option Tmp} {fr : List V} {ops : Array Oper} {rest : List Oper} {Q : KontO} {h : Heap} {d : V} {l : List Int} {lo y : Nat} {k : IntKind} {x : Int} (ho : OwnL h lo k d l) (hlo : cfg.lo ≤ lo) (hH : lo ≤ h.length)
    (hsz : (l.length + 1) * y ≤ 1099511627776) (hlen : l.length + 1 ≤ 1099511627776)
    (H : ∀ d' h', OwnL h' lo k d' (l ++ [x]) → h'.take lo = h.take lo → lo ≤ h'.length → @wO P md call cfg ⟨ops⟩ ⟨rest⟩ (put fr dst d') h' ⟨Q⟩) :
    @wS P md call cfg ⟨dst⟩ ⟨fr⟩ (appD cfg h 1 y d 1 [.int k x]) ⟨ops⟩ ⟨rest⟩ ⟨Q⟩ := by
  rcases ho with ⟨rfl, rfl⟩ | ⟨b, rfl, h1, hb⟩
  · rw [appD_nils (by simpa using hsz) (by omega) (by omega), wS_some]
    refine H _ _ (.inr ⟨h.length, by simp, hH, by simp⟩) ?_ (by simp; omega)
    rw [List.take_append_of_le_length hH]
  · have hbl := blockOf_lt hb
    have hw : cfg.wr b = true := by simp [Cfg.wr]; left; omega
    rw [appD_grow hb hw hsz hlen (by omega) (by simp), wS_some]
    refine H _ _ (.inr ⟨h.length, by simp, hH, ?_⟩) ?_ (by simp; omega)
    · simp only [Nat.mul_one]
      rw [List.take_of_length_le (by simp)]
      simp
      exact isMap_intsA rfl
    · rw [List.take_append_of_le_length (by simp; exact hH), List.take_set_of_le h1]
end
end Go.Ab
/- Several slices of the function's own at once. -/
namespace Go.Ab

/-- The block of a slice. -/
def blkOf : V → Option Nat
  | .sl b _ _ _ _ => some b
  | _ => none

/-- Two slices in two blocks. -/
def Dj (v d : V) : Prop := ∀ b, blkOf v = some b → blkOf d ≠ some b

theorem Dj.nils {v : V} : Dj v .nils := fun _ _ h => by cases h
theorem Dj.symm {v d : V} (h : Dj v d) : Dj d v := fun b h1 h2 => h b h2 h1

section
variable {P : Program} {md : FuncId → Nat} {call : Callf} {cfg : Cfg} {n : Nat}
theorem wS_app2 {dst : Option Tmp} {fr : List V} {ops : Array Oper} {rest : List Oper} {Q : KontO} {h : Heap} {d : V} {l : List Int} {lo y : Nat} {k : IntKind} {x : Int} (ho : OwnL h lo k d l) (hlo : cfg.lo ≤ lo) (hH : lo ≤ h.length)
    (hsz : (l.length + 1) * y ≤ 1099511627776) (hlen : l.length + 1 ≤ 1099511627776)
    (H : ∀ d' h', OwnL h' lo k d' (l ++ [x]) → h'.take lo = h.take lo → lo ≤ h'.length → h.length ≤ h'.length → (∀ v, Dj v d → (∀ b, blkOf v = some b → b < h.length) → Dj v d' ∧ ∀ b, blkOf v = some b → blockOf h' b = blockOf h b) → @wO P md call cfg ⟨ops⟩ ⟨rest⟩ (put fr dst d') h' ⟨Q⟩) :
    @wS P md call cfg ⟨dst⟩ ⟨fr⟩ (appD cfg h 1 y d 1 [.int k x]) ⟨ops⟩ ⟨rest⟩ ⟨Q⟩ := by
  rcases ho with ⟨rfl, rfl⟩ | ⟨b, rfl, h1, hb⟩
  · rw [appD_nils (by simpa using hsz) (by omega) (by omega), wS_some]
    refine H _ _ (.inr ⟨h.length, by simp, hH, by simp⟩) ?_ (by simp; omega) (by simp) ?_
    · rw [List.take_append_of_le_length hH]
    · intro v _ hv
      refine ⟨fun c hc h2 => ?_, fun c hc => blockOf_left (hv c hc)⟩
      simp only [blkOf, Option.some.injEq] at h2
      have := hv c hc
      omega
  · have hbl := blockOf_lt hb
    have hw : cfg.wr b = true := by simp [Cfg.wr]; left; omega
    rw [appD_grow hb hw hsz hlen (by omega) (by simp), wS_some]
    refine H _ _ (.inr ⟨h.length, by simp, hH, ?_⟩) ?_ (by simp; omega) (by simp) ?_
    · simp only [Nat.mul_one]
      rw [List.take_of_length_le (by simp)]
      simp
      exact isMap_intsA rfl
    · rw [List.take_append_of_le_length (by simp; exact hH), List.take_set_of_le h1]
    · intro v hd hv
      refine ⟨fun c hc h2 => ?_, fun c hc => ?_⟩
      · simp only [blkOf, Option.some.injEq] at h2
        have := hv c hc
        omega
      · have hne : b ≠ c := fun e => hd c hc (by rw [e]; rfl)
        rw [blockOf_left (by simpa using hv c hc), blockOf_set_ne' hne]
end

theorem OwnL.blk {h : Heap} {lo : Nat} {k : IntKind} {v : V} {l : List Int} (ho : OwnL h lo k v l) {b : Nat} (hb : blkOf v = some b) : lo ≤ b ∧ b < h.length := by
  rcases ho with ⟨rfl, rfl⟩ | ⟨c, rfl, h1, hc⟩
  · cases hb
  · cases hb; exact ⟨h1, blockOf_lt hc⟩
theorem OwnL.of_blk {h h' : Heap} {lo : Nat} {k : IntKind} {v : V} {l : List Int} (ho : OwnL h lo k v l) (hh : ∀ b, blkOf v = some b → blockOf h' b = blockOf h b) : OwnL h' lo k v l := by
  rcases ho with ⟨rfl, rfl⟩ | ⟨c, rfl, h1, hc⟩
  · exact .inl ⟨rfl, rfl⟩
  · exact .inr ⟨c, rfl, h1, by rw [hh c rfl]; exact hc⟩

/-- The heap is as it was, but for one block, and what came behind. -/
def Upd (h : Heap) (b : Nat) (cs : List V) (H : Heap) : Prop := H.take h.length = h.set b (some cs) ∧ h.length ≤ H.length

theorem Upd.refl {h : Heap} {b : Nat} {cs : List V} (hb : blockOf h b = some cs) : Upd h b cs h := by
  refine ⟨?_, Nat.le_refl _⟩
  rw [List.take_length]
  exact (set_same hb).symm
theorem Upd.block {h H : Heap} {b : Nat} {cs : List V} (hu : Upd h b cs H) (hb : b < h.length) (hm : isMap cs = false) : blockOf H b = some cs := by
  have h1 : H[b]? = (H.take h.length)[b]? := by rw [List.getElem?_take_of_lt hb]
  unfold blockOf
  rw [h1, hu.1, List.getElem?_set_self hb]
  simp [hm]
theorem Upd.set {h H : Heap} {b : Nat} {cs cs' : List V} (hu : Upd h b cs H) : Upd h b cs' (H.set b (some cs')) := by
  refine ⟨?_, by simpa using hu.2⟩
  rw [List.take_set, hu.1]
  simp
theorem Upd.push {h H : Heap} {b : Nat} {cs : List V} (hu : Upd h b cs H) (x : Heap) : Upd h b cs (H ++ x) := by
  refine ⟨?_, by have := hu.2; simp; omega⟩
  rw [List.take_append_of_le_length hu.2, hu.1]
theorem Upd.of_take {h H H' : Heap} {b : Nat} {cs : List V} (hu : Upd h b cs H) (ht : H'.take h.length = H.take h.length) (hl : h.length ≤ H'.length) : Upd h b cs H' := ⟨ht.trans hu.1, hl⟩
end Go.Ab
/- Heaps of a function: fixed blocks first, then slices of its own, anywhere behind. -/
namespace Go.Ab

/-- A slice of the function's own with elements of k cells: nil, or a whole block from lo on. -/
def OwnC (h : Heap) (lo k : Nat) (v : V) (cs : List V) : Prop :=
  (v = .nils ∧ cs = []) ∨ ∃ b n, v = .sl b 0 n n k ∧ cs.length = n * k ∧ lo ≤ b ∧ blockOf h b = some cs

abbrev Own := Nat × V × List V

structure Hp (H base : Heap) (os : List Own) : Prop where
  take : H.take base.length = base
  le : base.length ≤ H.length
  own : ∀ o ∈ os, OwnC H base.length o.1 o.2.1 o.2.2
  dj : os.Pairwise fun a b => Dj a.2.1 b.2.1

theorem OwnC.blk {h : Heap} {lo k : Nat} {v : V} {cs : List V} (ho : OwnC h lo k v cs) {b : Nat} (hb : blkOf v = some b) : lo ≤ b ∧ b < h.length := by
  rcases ho with ⟨rfl, rfl⟩ | ⟨c, n, rfl, _, h1, hc⟩
  · cases hb
  · cases hb; exact ⟨h1, blockOf_lt hc⟩
theorem OwnC.of_blk {h h' : Heap} {lo k : Nat} {v : V} {cs : List V} (ho : OwnC h lo k v cs) (hh : ∀ b, blkOf v = some b → blockOf h' b = blockOf h b) : OwnC h' lo k v cs := by
  rcases ho with ⟨rfl, rfl⟩ | ⟨c, n, rfl, hn, h1, hc⟩
  · exact .inl ⟨rfl, rfl⟩
  · exact .inr ⟨c, n, rfl, hn, h1, by rw [hh c rfl]; exact hc⟩
theorem OwnC.lo {h : Heap} {lo lo' k : Nat} {v : V} {cs : List V} (ho : OwnC h lo k v cs) (hl : lo' ≤ lo) : OwnC h lo' k v cs := by
  rcases ho with ⟨rfl, rfl⟩ | ⟨c, n, rfl, hn, h1, hc⟩
  · exact .inl ⟨rfl, rfl⟩
  · exact .inr ⟨c, n, rfl, hn, by omega, hc⟩
theorem OwnC.pos {h : Heap} {lo k : Nat} {v : V} {cs : List V} (ho : OwnC h lo k v cs) (hc : cs ≠ []) : ∃ b n, v = .sl b 0 n n k ∧ cs.length = n * k ∧ lo ≤ b ∧ b < h.length ∧ blockOf h b = some cs := by
  rcases ho with ⟨rfl, rfl⟩ | ⟨c, n, rfl, hn, h1, hb⟩
  · exact absurd rfl hc
  · exact ⟨c, n, rfl, hn, h1, blockOf_lt hb, hb⟩
/-- The same for a slice of integers. -/
theorem OwnC.ints {h : Heap} {lo : Nat} {v : V} {kd : IntKind} {l : List Int} (ho : OwnC h lo 1 v (l.map (V.int kd))) (hc : 0 < l.length) : ∃ b, v = .sl b 0 l.length l.length 1 ∧ lo ≤ b ∧ b < h.length ∧ blockOf h b = some (l.map (V.int kd)) := by
  obtain ⟨b, n, rfl, hn, h1, h2, h3⟩ := ho.pos (by intro h; simp at h; subst h; simp at hc)
  simp at hn
  subst hn
  exact ⟨b, rfl, h1, h2, h3⟩
theorem OwnC.len {P : Program} {t e : TypeId} {h : Heap} {lo k : Nat} {v : V} {cs : List V} (hu : P.underlying t = some (.slice e)) (hk : 0 < k) (ho : OwnC h lo k v cs) : lenV P t v = some (.int .i64 (cs.length / k : Nat)) := by
  rcases ho with ⟨rfl, rfl⟩ | ⟨b, n, rfl, hn, _, hb⟩
  · rw [lenN_eq hu]; simp
  · rw [lenS_eq hu, hn, Nat.mul_div_cancel _ hk]
theorem OwnC.leaf {h : Heap} {lo k : Nat} {v : V} {cs : List V} (ho : OwnC h lo k v cs) : v.leaf = true := by
  rcases ho with ⟨rfl, _⟩ | ⟨b, n, rfl, _⟩ <;> rfl
theorem OwnC.cells {h : Heap} {lo k : Nat} {v : V} {cs : List V} (ho : OwnC h lo k v cs) : cellsOf v = some [v] := by
  rcases ho with ⟨rfl, _⟩ | ⟨b, n, rfl, _⟩ <;> rfl
theorem OwnC.len1 {P : Program} {t e : TypeId} {h : Heap} {lo : Nat} {v : V} {cs : List V} (hu : P.underlying t = some (.slice e)) (ho : OwnC h lo 1 v cs) : lenV P t v = some (.int .i64 cs.length) := by
  rw [ho.len hu (by omega), Nat.div_one]
theorem mapM_frz_rf {h : Heap} {n d : Nat} : ∀ {cs : List V}, cs.all V.rf = true → (∀ c ∈ cs, c ≠ .nils) → cs.mapM (frz h n (d + 1)) = some cs
  | [], _, _ => rfl
  | c :: cs, hr, hn => by
    simp only [List.all_cons, Bool.and_eq_true] at hr
    have ih := mapM_frz_rf (h := h) (n := n) (d := d) hr.2 (fun x hx => hn x (List.mem_cons_of_mem _ hx))
    have h0 : frz h n (d + 1) c = some c := by
      have := hr.1
      have hc := hn c (List.mem_cons_self ..)
      cases c <;> first | rfl | (exact absurd rfl hc) | (simp [V.rf] at this; done)
    simp [List.mapM_cons, h0, ih]
theorem OwnC.frz {h : Heap} {lo n d k : Nat} {v : V} {cs : List V} (ho : OwnC h lo k v cs) (hn : n ≤ lo) (hr : cs.all V.rf = true) (hnn : ∀ c ∈ cs, c ≠ .nils) (hk : 0 < k) : frz h n (d + 2) v = some (.lst (chunk k (cs.length / k) cs)) := by
  rcases ho with ⟨rfl, rfl⟩ | ⟨b, m, rfl, hm, h1, hb⟩
  · simp [chunk]
  · rw [frz_sl, if_neg (by omega), hb]
    have e : List.take (m * k) cs = cs := by rw [← hm, List.take_length]
    simp only [Nat.zero_add, List.drop_zero, hm, Nat.le_refl, if_true, e, mapM_frz_rf hr hnn, hr, Nat.mul_div_cancel _ hk]
theorem OwnC.frzI {h : Heap} {lo n d : Nat} {v : V} {kd : IntKind} {l : List Int} (ho : OwnC h lo 1 v (l.map (V.int kd))) (hn : n ≤ lo) : Go.Ab.frz h n (d + 2) v = some (.lst (l.map fun x => [.int kd x])) := by
  rw [ho.frz hn (by simp) (by simp) (by omega)]
  simp only [Nat.div_one, chunk_one, List.map_map]
  rfl
theorem OwnC.frzA {h : Heap} {lo : Nat} {v : V} {kd : IntKind} {l : List Int} (ho : OwnC h lo 1 v (l.map (V.int kd))) : Go.Ab.frzA h v = some (.lst (l.map fun x => [.int kd x])) := by
  unfold Go.Ab.frzA
  rw [ho.frzI (d := 4) (Nat.zero_le _)]
  rfl
theorem OwnC.own {h : Heap} {lo d k : Nat} {v : V} {cs : List V} (ho : OwnC h lo k v cs) (hr : ∀ c ∈ cs, Go.Ab.own h (d + 1) c = true) : Go.Ab.own h (d + 2) v = true := by
  rcases ho with ⟨rfl, rfl⟩ | ⟨b, n, rfl, hn, h1, hb⟩
  · rfl
  · show (match blockOf h b with
      | some cs => ((cs.drop 0).take (n * k)).all (Go.Ab.own h (d + 1))
      | none => false) = true
    rw [hb]
    simp only [List.drop_zero, List.all_eq_true]
    exact fun c hc => hr c (List.mem_of_mem_take hc)
theorem OwnC.ownI {h : Heap} {lo d : Nat} {v : V} {kd : IntKind} {l : List Int} (ho : OwnC h lo 1 v (l.map (V.int kd))) : Go.Ab.own h (d + 2) v = true := by
  refine ho.own fun c hc => ?_
  obtain ⟨x, _, rfl⟩ := List.mem_map.1 hc
  rfl

@[simp] theorem own_agg {h : Heap} {d : Nat} {cs : List V} : Go.Ab.own h (d + 1) (.agg cs) = cs.all (Go.Ab.own h d) := rfl
@[simp] theorem own_tup {h : Heap} {d : Nat} {cs : List V} : Go.Ab.own h (d + 1) (.tup cs) = cs.all (Go.Ab.own h d) := rfl
@[simp] theorem own_int {h : Heap} {d : Nat} {k : IntKind} {n : Int} : Go.Ab.own h (d + 1) (.int k n) = true := rfl
@[simp] theorem own_bool {h : Heap} {d : Nat} {b : Bool} : Go.Ab.own h (d + 1) (.bool b) = true := rfl
@[simp] theorem own_str {h : Heap} {d : Nat} {b : ByteArray} : Go.Ab.own h (d + 1) (.str b) = true := rfl
@[simp] theorem own_nils {h : Heap} {d : Nat} : Go.Ab.own h (d + 1) .nils = true := rfl
@[simp] theorem own_lst0 {h : Heap} {d : Nat} : Go.Ab.own h (d + 1) (.lst []) = true := rfl
theorem Hp.start {H : Heap} : Hp H H [] := ⟨List.take_length, Nat.le_refl _, by simp, List.Pairwise.nil⟩
theorem Hp.cut {H base : Heap} {os : List Own} {n : Nat} (h : Hp H base os) (hn : n ≤ base.length) : Hp H (base.take n) os := by
  have hl : (base.take n).length = n := by simp; omega
  refine ⟨?_, by rw [hl]; have := h.le; omega, fun o ho => ?_, h.dj⟩
  · rw [hl]
    conv => rhs; rw [← h.take]
    rw [List.take_take, Nat.min_eq_left hn]
  · rw [hl]; exact (h.own o ho).lo hn
theorem Hp.block {H base : Heap} {os : List Own} {b : Nat} (h : Hp H base os) (hb : b < base.length) : blockOf H b = blockOf base b := by
  have : H[b]? = base[b]? := by
    conv => rhs; rw [← h.take]
    rw [List.getElem?_take_of_lt hb]
  simp [blockOf, this]
theorem Hp.push {H base : Heap} {os : List Own} (h : Hp H base os) (x : Heap) : Hp (H ++ x) base os := by
  refine ⟨?_, by have := h.le; simp; omega, fun o ho => (h.own o ho).of_blk fun b hb => blockOf_left ((h.own o ho).blk hb).2, h.dj⟩
  rw [List.take_append_of_le_length h.le, h.take]
theorem Hp.set {H base : Heap} {os : List Own} {b : Nat} (h : Hp H base os) (hb : b < base.length) (x : Option (List V)) : Hp (H.set b x) (base.set b x) os := by
  refine ⟨?_, by simpa using h.le, fun o ho => ?_, h.dj⟩
  · rw [List.length_set, List.take_set, h.take]
  · rw [List.length_set]
    exact (h.own o ho).of_blk fun c hc => blockOf_set_ne' (by have := ((h.own o ho).blk hc).1; omega)
/-- A block behind the fixed ones that is nobody's. -/
theorem Hp.new {H base : Heap} {os : List Own} {n k : Nat} {cs : List V} (h : Hp H base os) (hm : isMap cs = false) (hn : cs.length = n * k) (x : Heap) : Hp (H ++ some cs :: x) base ((k, .sl H.length 0 n n k, cs) :: os) := by
  have hp := h.push (some cs :: x)
  refine ⟨hp.take, hp.le, fun o ho => ?_, List.pairwise_cons.2 ⟨fun o ho => ?_, h.dj⟩⟩
  · rcases List.mem_cons.1 ho with rfl | ho
    · exact .inr ⟨_, n, rfl, hn, h.le, by simp [hm]⟩
    · exact hp.own o ho
  · intro b hb hb2
    cases hb
    have := ((h.own o ho).blk hb2).2
    omega
theorem Hp.nil {H base : Heap} {os : List Own} (h : Hp H base os) (k : Nat) : Hp H base ((k, .nils, []) :: os) := by
  refine ⟨h.take, h.le, fun o ho => ?_, List.pairwise_cons.2 ⟨fun o _ b hb => by simp [blkOf] at hb, h.dj⟩⟩
  rcases List.mem_cons.1 ho with rfl | ho
  · exact .inl ⟨rfl, rfl⟩
  · exact h.own o ho
theorem Hp.drop {H base : Heap} {os os' : List Own} (h : Hp H base os) (hs : os'.Sublist os) : Hp H base os' :=
  ⟨h.take, h.le, fun o ho => h.own o (hs.subset ho), h.dj.sublist hs⟩
theorem Hp.perm {H base : Heap} {os os' : List Own} (h : Hp H base os) (hs : os.Perm os') : Hp H base os' :=
  ⟨h.take, h.le, fun o ho => h.own o (hs.mem_iff.2 ho), hs.pairwise h.dj (fun {_ _} h => h.symm)⟩
theorem Hp.swap {H base : Heap} {a b : Own} {os : List Own} (h : Hp H base (a :: b :: os)) : Hp H base (b :: a :: os) := h.perm (.swap ..)
theorem Hp.tail {H base : Heap} {a : Own} {os : List Own} (h : Hp H base (a :: os)) : Hp H base os := h.drop (List.sublist_cons_self ..)
theorem Hp.head {H base : Heap} {k : Nat} {v : V} {cs : List V} {os : List Own} (h : Hp H base ((k, v, cs) :: os)) : OwnC H base.length k v cs := h.own (k, v, cs) (List.mem_cons_self ..)
theorem Hp.snd {H base : Heap} {a : Own} {k : Nat} {v : V} {cs : List V} {os : List Own} (h : Hp H base (a :: (k, v, cs) :: os)) : OwnC H base.length k v cs := h.tail.head
theorem Hp.thd {H base : Heap} {a b : Own} {k : Nat} {v : V} {cs : List V} {os : List Own} (h : Hp H base (a :: b :: (k, v, cs) :: os)) : OwnC H base.length k v cs := h.tail.tail.head
/-- One of the own slices gets other cells. -/
theorem Hp.setO {H base : Heap} {os : List Own} {k n b : Nat} {cs cs' : List V} (h : Hp H base ((k, .sl b 0 n n k, cs) :: os)) (hm : isMap cs' = false) (hl : cs'.length = cs.length) : Hp (H.set b (some cs')) base ((k, .sl b 0 n n k, cs') :: os) := by
  have hh := h.head
  obtain ⟨hb1, hb2⟩ := hh.blk (b := b) rfl
  have hd := List.pairwise_cons.1 h.dj
  rcases hh with ⟨hh, _⟩ | ⟨b', n', hv, hn, h1, h2⟩
  · cases hh
  cases hv
  refine ⟨?_, by simpa using h.le, fun o ho => ?_, List.pairwise_cons.2 ⟨hd.1, hd.2⟩⟩
  · rw [List.take_set_of_le hb1, h.take]
  · rcases List.mem_cons.1 ho with rfl | ho
    · exact .inr ⟨_, _, rfl, by rw [hl]; exact hn, hb1, by simp [hb2, hm]⟩
    · refine (h.own o (List.mem_cons_of_mem _ ho)).of_blk fun c hc => blockOf_set_ne' ?_
      intro e
      subst e
      exact hd.1 o ho b rfl hc

theorem isMap_append {a b : List V} (ha : isMap a = false) (hb : isMap b = false) : isMap (a ++ b) = false := by
  cases a with
  | nil => exact hb
  | cons x a => cases x <;> first | rfl | simp [isMap] at ha
theorem isMap_of_block {h : Heap} {b : Nat} {cs : List V} (hb : blockOf h b = some cs) : isMap cs = false := by
  unfold blockOf at hb
  split at hb
  · rename_i x _
    split at hb
    · cases hb
    · rename_i hx
      cases hb
      simpa using hx
  · cases hb
/-- What holds at a place where ways come together. -/
def Mid [I : Hid (List V → Heap → Prop)] (fr : List V) (h : Heap) : Prop := I.val fr h
def kMid [I : Hid (List V → Heap → Prop)] (e : Ex) (fr : List V) (h : Heap) : Prop :=
  match e with
  | .normal => @Mid I fr h
  | _ => False
@[simp] theorem kMid_normal {I : List V → Heap → Prop} {fr : List V} {h : Heap} : @kMid ⟨I⟩ .normal fr h ↔ @Mid ⟨I⟩ fr h := Iff.rfl
theorem Mid_of {I : List V → Heap → Prop} {fr : List V} {h : Heap} (hi : I fr h) : @Mid ⟨I⟩ fr h := hi
section
variable {P : Program} {md : FuncId → Nat} {call : Callf} {cfg : Cfg} {n : Nat}
theorem wC_mid {c b : Code} {fr : List V} {h : Heap} {Q : Kont} (I : List V → Heap → Prop) (h1 : @wC P md call cfg n ⟨c⟩ fr h ⟨@kMid ⟨I⟩⟩) (h2 : ∀ fr h, I fr h → @wC P md call cfg n ⟨b⟩ fr h ⟨Q⟩) :
    @wC P md call cfg n ⟨c⟩ fr h ⟨@kSeq P md call cfg n ⟨b⟩ ⟨Q⟩⟩ := by
  refine wC_mono h1 fun e fr h hm => ?_
  cases e with
  | normal => exact h2 fr h hm
  | exit i => exact hm.elim
  | ret => exact hm.elim
/-- append to the first of the own slices. -/
theorem wS_appO {dst : Option Tmp} {fr : List V} {ops : Array Oper} {rest : List Oper} {Q : KontO} {h base : Heap} {os : List Own} {d : V} {cs new : List V} {k m y : Nat} (ho : Hp h base ((k, d, cs) :: os)) (hlo : cfg.lo ≤ base.length)
    (hnew : new.length = m * k) (hmn : isMap new = false) (hm : 0 < m) (hk : 0 < k) (hsz : (cs.length / k + m) * y ≤ 1099511627776) (hlen : cs.length / k + m ≤ 1099511627776)
    (H : ∀ d' h', Hp h' base ((k, d', cs ++ new) :: os) → @wO P md call cfg ⟨ops⟩ ⟨rest⟩ (put fr dst d') h' ⟨Q⟩) :
    @wS P md call cfg ⟨dst⟩ ⟨fr⟩ (appD cfg h k y d m new) ⟨ops⟩ ⟨rest⟩ ⟨Q⟩ := by
  have hd := List.pairwise_cons.1 ho.dj
  rcases ho.head with ⟨hh, hcs⟩ | ⟨b, n, hv, hn, h1, hb⟩
  · subst hh hcs
    simp only [List.length_nil, Nat.zero_div, Nat.zero_add] at hsz hlen
    rw [appD_nils hsz hlen hm, wS_some]
    exact H _ _ (by simpa using ho.tail.new hmn hnew [])
  · subst hv
    rw [hn, Nat.mul_div_cancel _ hk] at hsz hlen
    have hbl := blockOf_lt hb
    have hw : cfg.wr b = true := by simp only [Cfg.wr, Bool.or_eq_true, decide_eq_true_eq]; left; omega
    rw [appD_grow hb hw hsz hlen (by omega) (by omega), wS_some, ← hn, List.take_length]
    refine H _ _ ?_
    have hp0 : Hp (h.set b none) base os := by
      refine ⟨?_, by simpa using ho.le, fun o hoo => ?_, hd.2⟩
      · rw [List.take_set_of_le h1, ho.take]
      · refine (ho.own o (List.mem_cons_of_mem _ hoo)).of_blk fun c hc => blockOf_set_ne' ?_
        intro e
        subst e
        exact hd.1 o hoo b rfl hc
    have := hp0.new (cs := cs ++ new) (n := n + m) (k := k) (isMap_append (isMap_of_block hb) hmn) (by simp [hn, hnew, Nat.add_mul]) []
    simpa using this
end
end Go.Ab
/- The visual order, in plain Lean: the runs of at least a level are reversed, level by level. -/
namespace Go.Ab.Bi

/-- Each maximal run of elements with p is reversed. -/
def rr (p : Int → Bool) : List Int → List Int → List Int
  | acc, [] => acc
  | acc, x :: l => if p x then rr p (x :: acc) l else acc ++ x :: rr p [] l

theorem rr_run (p : Int → Bool) : ∀ (run acc rest : List Int), (∀ x ∈ run, p x = true) → rr p acc (run ++ rest) = rr p (run.reverse ++ acc) rest
  | [], acc, rest, _ => by simp
  | x :: run, acc, rest, h => by
    have hx := h x (List.mem_cons_self ..)
    simp only [List.cons_append, rr, hx, if_true, List.reverse_cons, List.append_assoc, List.nil_append]
    exact rr_run p run (x :: acc) rest fun y hy => h y (List.mem_cons_of_mem _ hy)
theorem rr_all (p : Int → Bool) (run : List Int) (h : ∀ x ∈ run, p x = true) : rr p [] run = run.reverse := by
  have := rr_run p run [] [] h
  simpa [rr] using this
theorem rr_stop {p : Int → Bool} {acc l : List Int} {x : Int} (h : p x = false) : rr p acc (x :: l) = acc ++ x :: rr p [] l := by simp [rr, h]
theorem rr_none (p : Int → Bool) : ∀ l : List Int, (∀ x ∈ l, p x = false) → rr p [] l = l
  | [], _ => rfl
  | x :: l, h => by
    rw [rr_stop (h x (List.mem_cons_self ..)), rr_none p l fun y hy => h y (List.mem_cons_of_mem _ hy)]
    rfl
theorem rr_twice' (p : Int → Bool) : ∀ (l acc : List Int), (∀ x ∈ acc, p x = true) → rr p [] (rr p acc l) = acc.reverse ++ l
  | [], acc, h => by simp [rr, rr_all p acc h]
  | x :: l, acc, h => by
    cases hx : p x
    · rw [rr_stop hx, rr_run p acc [] _ h, rr_stop hx, rr_twice' p l [] (by simp)]
      simp
    · have e : rr p acc (x :: l) = rr p (x :: acc) l := by simp [rr, hx]
      rw [e, rr_twice' p l (x :: acc) (by
        intro y hy
        rcases List.mem_cons.1 hy with rfl | hy
        · exact hx
        · exact h y hy)]
      simp
theorem rr_twice (p : Int → Bool) (l : List Int) : rr p [] (rr p [] l) = l := rr_twice' p l [] (by simp)
theorem rr_congr {p q : Int → Bool} : ∀ (l acc : List Int), (∀ x ∈ l, p x = q x) → rr p acc l = rr q acc l
  | [], _, _ => rfl
  | x :: l, acc, h => by
    have h1 := h x (List.mem_cons_self ..)
    have h2 := fun y hy => h y (List.mem_cons_of_mem _ hy)
    simp only [rr, h1, rr_congr l _ h2]
theorem rr_perm (p : Int → Bool) : ∀ (l acc : List Int), (rr p acc l).Perm (acc ++ l)
  | [], acc => by simp [rr]
  | x :: l, acc => by
    cases hx : p x
    · rw [rr_stop hx]
      exact (List.Perm.append_left acc ((rr_perm p l []).cons x))
    · have e : rr p acc (x :: l) = rr p (x :: acc) l := by simp [rr, hx]
      rw [e]
      exact (rr_perm p l (x :: acc)).trans (by simpa using List.perm_middle.symm)
theorem rr_mem {p : Int → Bool} {l : List Int} {x : Int} : x ∈ rr p [] l ↔ x ∈ l := by simpa using (rr_perm p l []).mem_iff (a := x)
theorem rr_len (p : Int → Bool) (l : List Int) : (rr p [] l).length = l.length := by simpa using (rr_perm p l []).length_eq

/-- The level of an index. -/
def lvl (lv : List Int) (x : Int) : Int := lv.getD x.toNat 0
def ge (lv : List Int) (n : Int) (x : Int) : Bool := decide (n ≤ lvl lv x)
/-- From level n down to 1. -/
def ordD (lv : List Int) : Nat → List Int → List Int
  | 0, l => l
  | n + 1, l => ordD lv n (rr (ge lv (n + 1 : Nat)) [] l)
/-- The indices. -/
def idx (n : Nat) : List Int := (List.range n).map fun x : Nat => (x : Int)
theorem idx_len (n : Nat) : (idx n).length = n := by simp [idx]
theorem idx_mem {n : Nat} {x : Int} : x ∈ idx n ↔ 0 ≤ x ∧ x < n := by
  simp only [idx, List.mem_map, List.mem_range]
  constructor
  · rintro ⟨a, h, rfl⟩; omega
  · intro h; exact ⟨x.toNat, by omega, by omega⟩

theorem ord_perm (lv : List Int) : ∀ (n : Nat) (l : List Int), (ordD lv n l).Perm l
  | 0, l => List.Perm.refl _
  | n + 1, l => (ord_perm lv n _).trans (by simpa using rr_perm (ge lv (n + 1 : Nat)) l [])

/-- Levels above the highest one do nothing. -/
theorem ord_high (lv : List Int) (l : List Int) (m : Nat) : ∀ n : Nat, m ≤ n → (∀ x ∈ l, lvl lv x ≤ m) → ordD lv n l = ordD lv m l
  | 0, h, _ => by obtain rfl : m = 0 := by omega
                  rfl
  | n + 1, h, hx => by
    by_cases e : m = n + 1
    · rw [e]
    · rw [ordD, rr_none _ _ fun x hxx => by
        have := hx x hxx
        simp only [ge, decide_eq_false_iff_not]; omega]
      exact ord_high lv l m n (by omega) hx
/-- Levels below the lowest odd one do nothing. -/
theorem ord_low (lv : List Int) (l : List Int) : ∀ k : Nat, (∀ x ∈ l, lvl lv x < (2 * k : Nat) → lvl lv x % 2 = 0) → ordD lv (2 * k) l = l
  | 0, _ => rfl
  | k + 1, h => by
    rw [show 2 * (k + 1) = 2 * k + 1 + 1 by omega, ordD, ordD]
    have e : rr (ge lv ((2 * k + 1 : Nat) : Int)) [] (rr (ge lv ((2 * k + 1 + 1 : Nat) : Int)) [] l) = l := by
      rw [rr_congr (q := ge lv ((2 * k + 1 + 1 : Nat) : Int)) _ _ ?_, rr_twice]
      intro x hx
      rw [rr_mem] at hx
      have := h x hx
      simp only [ge]
      by_cases hl : lvl lv x < (2 * (k + 1) : Nat)
      · have := this hl
        by_cases h2 : ((2 * k + 1 : Nat) : Int) ≤ lvl lv x
        · omega
        · rw [decide_eq_false h2, decide_eq_false (by omega)]
      · rw [decide_eq_true (by omega), decide_eq_true (by omega)]
    rw [e]
    exact ord_low lv l k fun x hx h2 => h x hx (by omega)

/-- A range that is being reversed: k elements at each end are done. -/
def Swp (l : List Int) (i to k : Nat) (l' : List Int) : Prop := l'.length = l.length ∧ ∀ q, l'[q]? = if i ≤ q ∧ q < to ∧ (q < i + k ∨ to ≤ q + k) then l[i + to - 1 - q]? else l[q]?
theorem Swp.zero {l : List Int} {i to : Nat} : Swp l i to 0 l := ⟨rfl, fun q => by rw [if_neg (by omega)]⟩
theorem Swp.at {l l' : List Int} {i to k q : Nat} (h : Swp l i to k l') (h1 : i + k ≤ q) (h2 : q + k < to) : l'[q]? = l[q]? := by
  rw [h.2, if_neg (by omega)]
theorem Swp.step {l l' : List Int} {i to k : Nat} {x y : Int} (h : Swp l i to k l') (hk : i + k + k + 1 < to) (ht : to ≤ l.length) (hx : l[i + k]? = some x) (hy : l[to - 1 - k]? = some y) :
    Swp l i to (k + 1) ((l'.set (i + k) y).set (to - 1 - k) x) := by
  refine ⟨by simp [h.1], fun q => ?_⟩
  rw [List.getElem?_set, List.getElem?_set, h.2]
  have hl := h.1
  by_cases e1 : to - 1 - k = q
  · subst e1
    rw [if_pos rfl, if_pos (by simp; omega), if_pos (by omega), show i + to - 1 - (to - 1 - k) = i + k by omega, hx]
  · rw [if_neg e1]
    by_cases e2 : i + k = q
    · subst e2
      rw [if_pos rfl, if_pos (by omega), if_pos (by omega), show i + to - 1 - (i + k) = to - 1 - k by omega, hy]
    · rw [if_neg e2]
      by_cases e3 : i ≤ q ∧ q < to ∧ (q < i + k ∨ to ≤ q + k)
      · rw [if_pos e3, if_pos (by omega)]
      · rw [if_neg e3, if_neg (by omega)]
theorem Swp.fin {a run b l' : List Int} {k : Nat} (h : Swp (a ++ run ++ b) a.length (a.length + run.length) k l') (hk : run.length ≤ k + k + 1) : l' = a ++ run.reverse ++ b := by
  apply List.ext_getElem?
  intro q
  rw [h.2]
  by_cases h1 : q < a.length
  · rw [if_neg (by omega)]
    simp [List.getElem?_append_left, h1]
  · by_cases h2 : q < a.length + run.length
    · have e : (a ++ run.reverse ++ b)[q]? = run.reverse[q - a.length]? := by
        rw [List.append_assoc, List.getElem?_append_right (by omega), List.getElem?_append_left (by simp; omega)]
      have e' : ∀ p, a.length ≤ p → p < a.length + run.length → (a ++ run ++ b)[p]? = run[p - a.length]? := fun p p1 p2 => by
        rw [List.append_assoc, List.getElem?_append_right (by omega), List.getElem?_append_left (by omega)]
      rw [e, List.getElem?_reverse (by omega)]
      split
      · rw [e' _ (by omega) (by omega)]
        congr 1
        omega
      · rw [e' _ (by omega) (by omega)]
        congr 1
        omega
    · rw [if_neg (by omega)]
      rw [List.getElem?_append_right (by simp; omega), List.getElem?_append_right (by simp; omega)]
      simp
end Go.Ab.Bi
/- What the bidirectional algorithm computes, in plain Lean: matching, base, explicit levels. -/
namespace Go.Ab.Bi

def ini (x : Int) : Bool := x == 19 || x == 20 || x == 21
def gone (x : Int) : Bool := x == 16 || x == 14 || x == 17 || x == 15 || x == 18 || x == 9

/-- How far the PDI is that closes, with d open isolates ahead. -/
def mscan : List Int → Nat → Option Nat
  | [], _ => none
  | x :: r, d =>
    if ini x then (mscan r (d + 1)).map (· + 1)
    else if x = 22 then match d with
      | 0 => some 0
      | d + 1 => (mscan r d).map (· + 1)
    else (mscan r d).map (· + 1)

theorem mscan_ini {x : Int} {r : List Int} {d : Nat} (h : ini x = true) : mscan (x :: r) d = (mscan r (d + 1)).map (· + 1) := by simp [mscan, h]
theorem mscan_pd0 {r : List Int} : mscan (22 :: r) 0 = some 0 := by simp [mscan, ini]
theorem mscan_pdS {r : List Int} {d : Nat} : mscan (22 :: r) (d + 1) = (mscan r d).map (· + 1) := by simp [mscan, ini]
theorem mscan_oth {x : Int} {r : List Int} {d : Nat} (h : ini x = false) (h2 : x ≠ 22) : mscan (x :: r) d = (mscan r d).map (· + 1) := by simp [mscan, h, h2]

theorem mscan_lt : ∀ (l : List Int) (d m : Nat), mscan l d = some m → m < l.length
  | [], _, _, h => by simp [mscan] at h
  | x :: r, d, m, h => by
    simp only [mscan] at h
    split at h
    · obtain ⟨k, hk, rfl⟩ := Option.map_eq_some_iff.1 h
      have := mscan_lt r _ k hk
      simp; omega
    · split at h
      · cases d with
        | zero => cases h; simp
        | succ d =>
          obtain ⟨k, hk, rfl⟩ := Option.map_eq_some_iff.1 h
          have := mscan_lt r _ k hk
          simp; omega
      · obtain ⟨k, hk, rfl⟩ := Option.map_eq_some_iff.1 h
        have := mscan_lt r _ k hk
        simp; omega
/-- In the text's first part. -/
theorem mscan_take : ∀ (l : List Int) (k d : Nat), mscan (l.take k) d = match mscan l d with
    | some m => if m < k then some m else none
    | none => none
  | [], k, d => by simp [mscan]
  | x :: r, 0, d => by
    simp only [List.take_zero, mscan]
    cases (if ini x = true then Option.map (· + 1) (mscan r (d + 1)) else if x = 22 then match d with
      | 0 => some 0
      | d + 1 => Option.map (· + 1) (mscan r d) else Option.map (· + 1) (mscan r d)) <;> simp
  | x :: r, k + 1, d => by
    have ih := fun d => mscan_take r k d
    simp only [List.take_succ_cons, mscan]
    split
    · rw [ih]
      cases mscan r (d + 1) with
      | none => rfl
      | some m => simp only [Option.map_some]; split <;> split <;> first | rfl | omega
    · split
      · cases d with
        | zero => simp
        | succ d =>
          simp only [ih]
          cases mscan r d with
          | none => rfl
          | some m => simp only [Option.map_some]; split <;> split <;> first | rfl | omega
      · rw [ih]
        cases mscan r d with
        | none => rfl
        | some m => simp only [Option.map_some]; split <;> split <;> first | rfl | omega

/-- The first strong class: 1 if it is R or AL. -/
def fsL : Nat → List Int → Int
  | 0, _ => 0
  | _ + 1, [] => 0
  | n + 1, x :: r =>
    if x = 0 then 0 else if x = 1 ∨ x = 2 then 1
    else if ini x then match mscan r 0 with
      | some m => fsL n (r.drop (m + 1))
      | none => 0
    else fsL n r
def fs (l : List Int) : Int := fsL l.length l
theorem fsL_more : ∀ (n : Nat) (l : List Int), l.length ≤ n → fsL n l = fs l
  | 0, l, h => by
    obtain rfl : l = [] := List.length_eq_zero_iff.1 (by omega)
    rfl
  | n + 1, [], _ => rfl
  | n + 1, x :: r, h => by
    simp at h
    have h1 : fsL n r = fsL r.length r := fsL_more n r h
    unfold fs
    simp only [List.length_cons, fsL]
    split
    · rfl
    · split
      · rfl
      · split
        · cases hm : mscan r 0 with
          | none => rfl
          | some m =>
            simp only
            rw [fsL_more n _ (by simp; omega), fsL_more r.length _ (by simp)]
        · exact h1
theorem fs_nil : fs [] = 0 := rfl
theorem fs_cons (x : Int) (r : List Int) : fs (x :: r) = if x = 0 then 0 else if x = 1 ∨ x = 2 then 1 else if ini x then (match mscan r 0 with
    | some m => fs (r.drop (m + 1))
    | none => 0) else fs r := by
  unfold fs
  simp only [List.length_cons, fsL]
  split
  · rfl
  · split
    · rfl
    · split
      · cases hm : mscan r 0 with
        | none => rfl
        | some m =>
          simp only
          rw [fsL_more _ _ (by simp)]
          rfl
      · rfl
theorem fs_val : ∀ (n : Nat) (l : List Int), fsL n l = 0 ∨ fsL n l = 1
  | 0, _ => .inl rfl
  | _ + 1, [] => .inl rfl
  | n + 1, x :: r => by
    simp only [fsL]
    split
    · exact .inl rfl
    · split
      · exact .inr rfl
      · split
        · split
          · exact fs_val n _
          · exact .inl rfl
        · exact fs_val n r

/-- Where the matching PDI of the initiator at i stands, or -1. -/
def mt (c : List Int) (i : Nat) : Int := match mscan (c.drop (i + 1)) 0 with
  | some m => ((i + 1 + m : Nat) : Int)
  | none => -1

/-- An entry of the stack: level, override, isolate. -/
abbrev Ent := Int × Int × Bool
structure ES where
  st : List Ent
  iso : Nat
  emb : Nat
  val : Nat

def nxt (n : Int) (odd : Bool) : Int := if (n % 2 == 0) == odd then n + 1 else n + 2
def ovr (o x : Int) : Int := if 0 ≤ o then o else x
def topE : List Ent → Ent
  | [] => (0, -1, false)
  | a :: _ => a
/-- Entries are removed up to the last isolate. -/
def popI : List Ent → List Ent
  | [] => []
  | a :: r => if a.2.2 then r else popI r
/-- The class of an embedding's override. -/
def ovOf (x : Int) : Int := if x = 17 then 1 else if x = 15 then 0 else -1

def exStep (e x : Int) (odd : Bool) (s : ES) : Int × Int × ES :=
  if x = 16 ∨ x = 14 ∨ x = 17 ∨ x = 15 then
    (((topE s.st).1, x, if nxt (topE s.st).1 (decide (x = 16 ∨ x = 17)) ≤ 125 ∧ s.iso = 0 ∧ s.emb = 0 then { s with st := (nxt (topE s.st).1 (decide (x = 16 ∨ x = 17)), ovOf x, false) :: s.st }
      else if s.iso = 0 then { s with emb := s.emb + 1 } else s))
  else if ini x then
    ((topE s.st).1, ovr (topE s.st).2.1 x, if nxt (topE s.st).1 odd ≤ 125 ∧ s.iso = 0 ∧ s.emb = 0 then { s with st := (nxt (topE s.st).1 odd, -1, true) :: s.st, val := s.val + 1 } else { s with iso := s.iso + 1 })
  else if x = 22 then
    let s' : ES := if 0 < s.iso then { s with iso := s.iso - 1 } else if 0 < s.val then { s with st := popI s.st, emb := 0, val := s.val - 1 } else s
    ((topE s'.st).1, ovr (topE s'.st).2.1 x, s')
  else if x = 18 then
    ((topE s.st).1, x, if 0 < s.iso then s else if 0 < s.emb then { s with emb := s.emb - 1 } else if (topE s.st).2.2 = false ∧ 1 < s.st.length then { s with st := s.st.tail } else s)
  else if x = 10 then (e, x, s)
  else if x = 9 then ((topE s.st).1, x, s)
  else ((topE s.st).1, ovr (topE s.st).2.1 x, s)

/-- Is the isolate at the head of x :: r one from the right? -/
def oddI (x : Int) (r : List Int) : Bool :=
  if x = 20 then true
  else if x = 21 then decide (fs (match mscan r 0 with
    | some m => r.take m
    | none => r) = 1)
  else false
def exGo (e : Int) : List Int → ES → List (Int × Int)
  | [], _ => []
  | x :: r, s => ((exStep e x (oddI x r) s).1, (exStep e x (oddI x r) s).2.1) :: exGo e r (exStep e x (oddI x r) s).2.2
def es0 (e : Int) : ES := ⟨[(e, -1, false)], 0, 0, 0⟩
def expl (e : Int) (c : List Int) : List (Int × Int) := exGo e c (es0 e)
end Go.Ab.Bi
/- The seat's functions: lists compared, reversed, ordered. -/
namespace Go.Ab
open Go.Proofs
namespace Bi
def md : FuncId → Nat
  | 12 => 2 | 27 => 2 | 39 => 2
  | 13 => 1 | 18 => 1 | 48 => 1 | 73 => 1 | 74 => 1
  | 30 => 1 | 32 => 1 | 33 => 1 | 34 => 1 | 35 => 1 | 55 => 1
  | 42 => 1 | 43 => 1 | 44 => 1 | 46 => 1 | 69 => 1
  | 49 => 1 | 82 => 1 | 89 => 1 | 93 => 1 | 94 => 1 | 95 => 1 | 97 => 1 | 98 => 1 | 99 => 1 | 100 => 1 | 103 => 1 | 105 => 1 | 106 => 1 | 107 => 1 | 108 => 1
  | 14 => 3 | 15 => 3 | 16 => 3 | 19 => 3 | 22 => 3 | 23 => 3 | 24 => 3 | 25 => 3 | 29 => 3 | 38 => 3 | 40 => 3 | 41 => 3 | 51 => 3 | 52 => 3 | 67 => 3 | 76 => 3 | 80 => 3
  | _ => 0
noncomputable abbrev K (prim : FuncId → Option Prim) (d : Nat) : Callf := callN Try.prog md prim 10000 d
abbrev il (l : List Int) : V := .lst (l.map fun n => [.int .i64 n])
abbrev rl (l : List Int) : V := .lst (l.map fun n => [.int .i32 n])
@[simp] theorem frzA_lst {h : Heap} {xs : List (List V)} : frzA h (.lst xs) = some (.lst xs) := rfl
@[simp] theorem frzA_int {h : Heap} {k : IntKind} {i : Int} : frzA h (.int k i) = some (.int k i) := rfl
@[simp] theorem frzA_bool {h : Heap} {b : Bool} : frzA h (.bool b) = some (.bool b) := rfl
@[simp] theorem frzA_agg {h : Heap} {cs : List V} : frzA h (.agg cs) = (cs.mapM (frz h 0 5)).map .agg := by
  unfold frzA; rw [frz_agg]; cases cs.mapM (frz h 0 5) <;> rfl
@[simp] theorem frzA_nils {h : Heap} : frzA h .nils = some (.lst []) := rfl

@[simp] theorem appD_nil0 {cfg : Cfg} {h : Heap} {k y : Nat} : appD cfg h k y .nils 0 [] = some (.nils, h) := by simp [appD, roomy]
@[simp] theorem flat_ints {k : IntKind} {l : List Int} : (l.map fun n => [V.int k n]).flatten = l.map (V.int k) := by
  induction l with
  | nil => rfl
  | cons x l ih => simp [ih]
section
variable {prim : FuncId → Option Prim} (d : Nat) (cfg : Cfg) (h : Heap)

theorem equal_ok (hp : prim 14 = none) (a b : List Int) (ha : a.length < 5000) {args : List V} (hargs : args.mapM (frzA h) = some [il a, il b]) : callM md (K prim (d + 1)) cfg 14 args h = some (.bool (decide (a = b)), h) := by
  refine call3 rfl hp Try.func14 rfl rfl rfl (args' := [il a, il b]) hargs ?_
  simp
  by_cases hl : a.length = b.length
  · simp [hl]
    refine wC_loop (fun m fr h => ∃ i : Nat, i ≤ a.length ∧ m = a.length - i ∧ a.take i = b.take i ∧ h = [] ∧ Slots 26 [(0, il a), (1, il b), (5, .int .i64 i)] fr) (m := a.length) (by omega) ⟨0, by omega, by omega, rfl, rfl, by simp⟩ ?_
    rintro m fr h ⟨i, hi, rfl, htk, rfl, hs⟩
    obtain ⟨j, rfl⟩ := hs.ex
    simp
    by_cases hlt : i < a.length
    · obtain ⟨x, hx⟩ : ∃ x, a[i]? = some x := ⟨a[i], List.getElem?_eq_getElem hlt⟩
      obtain ⟨y, hy⟩ : ∃ y, b[i]? = some y := ⟨b[i], List.getElem?_eq_getElem (by omega)⟩
      simp [hlt]
      refine wC_draw 8 (by kernel_rfl) ?_
      simp [hx, hy]
      by_cases hxy : x = y
      · simp (disch := first | omega | (simp; done) | (simp; omega)) [hxy, wrap64]
        refine Rnd_of (m' := a.length - (i + 1)) (by omega) ⟨i + 1, by omega, rfl, ?_, rfl, by simp⟩
        rw [List.take_add_one, List.take_add_one, htk, hx, hy, hxy]
      · simp [hxy, own]
        rintro rfl
        simp [hx] at hy
        exact hxy hy
    · simp [hlt, own]
      rw [List.take_of_length_le (by omega), List.take_of_length_le (by omega)] at htk
      exact htk
  · simp [hl, own]
    rintro rfl
    exact hl rfl

theorem reverse_ok (hp : prim 49 = none) (a run c : List Int) (hr : run.length ≤ 4000) (b cap : Nat) (hb : blockOf h b = some ((a ++ run ++ c).map (V.int .i64))) (hw : cfg.wr b = true) :
    callM md (K prim (d + 1)) cfg 49 [.sl b a.length run.length cap 1] h = some (.tup [], h.set b (some ((a ++ run.reverse ++ c).map (V.int .i64)))) := by
  have hw' : (Cfg.wr ⟨cfg.lo, cfg.ex, h.length⟩ b) = true := hw
  have hbl := blockOf_lt hb
  refine call1 rfl hp Try.func49 rfl rfl rfl ?_
  simp (disch := omega) [wrap64]
  refine wC_loop (fun m fr H => ∃ (k : Nat) (l : List Int), m = run.length - k ∧ k ≤ run.length ∧ Swp (a ++ run ++ c) a.length (a.length + run.length) k l ∧ H = h.set b (some (l.map (V.int .i64))) ∧
    Slots 28 [(0, .sl b a.length run.length cap 1), (2, .int .i64 k), (3, .int .i64 ((run.length : Int) - 1 - k))] fr) (m := run.length) (by omega) ⟨0, _, by omega, by omega, Swp.zero, (set_same hb).symm, by simp⟩ ?_
  rintro m fr H ⟨k, l, rfl, hk, hS, rfl, hs⟩
  obtain ⟨j, rfl⟩ := hs.ex
  clear hs
  by_cases hlt : (k : Int) < (run.length : Int) - 1 - k
  · have hll := hS.1
    simp only [List.length_append] at hll
    obtain ⟨x, hx⟩ : ∃ x, (a ++ run ++ c)[a.length + k]? = some x := ⟨_, List.getElem?_eq_getElem (by simp; omega)⟩
    obtain ⟨y, hy⟩ : ∃ y, (a ++ run ++ c)[a.length + run.length - 1 - k]? = some y := ⟨_, List.getElem?_eq_getElem (by simp; omega)⟩
    have hx' := (hS.at (q := a.length + k) (by omega) (by omega)).trans hx
    have hy' := (hS.at (q := a.length + run.length - 1 - k) (by omega) (by omega)).trans hy
    have e1 : ((run.length : Int) - 1 - k).toNat = run.length - 1 - k := by omega
    have e2 : a.length + (run.length - 1 - k) = a.length + run.length - 1 - k := by omega
    have l1 : a.length + k + 1 ≤ l.length := by omega
    have l2 : a.length + run.length - 1 - k + 1 ≤ l.length := by omega
    simp [hlt]
    refine wC_draw 12 (by kernel_rfl) ?_
    simp (disch := omega) [hx', hy', e1, e2, l1, hw', -getElem?_pos]
    rw [ints_set]
    simp [l2, -List.map_set]
    refine Rnd_of (m' := run.length - (k + 1)) (by omega) ⟨k + 1, _, rfl, by omega, hS.step (by omega) (by simp) hx hy, rfl, ?_⟩
    simp (disch := omega) [wrap64]
    omega
  · have hfin := hS.fin (by omega)
    subst hfin
    simp [hlt]
    exact List.take_of_length_le (by simp)
end
end Bi
end Go.Ab
/- Slices that grow and shrink at their end. -/
namespace Go.Ab

/-- A slice of elements of k cells: nil, or the first part of a block. -/
def Stk (h : Heap) (lo k : Nat) (v : V) (cs : List V) : Prop :=
  (v = .nils ∧ cs = []) ∨ ∃ b n cap J, v = .sl b 0 n cap k ∧ lo ≤ b ∧ cs.length = n * k ∧ blockOf h b = some (cs ++ J) ∧ (cs ++ J).length = cap * k ∧ n ≤ cap

theorem Stk.blk {h : Heap} {lo k : Nat} {v : V} {cs : List V} (ho : Stk h lo k v cs) {b : Nat} (hb : blkOf v = some b) : lo ≤ b ∧ b < h.length := by
  rcases ho with ⟨rfl, rfl⟩ | ⟨c, n, cap, J, rfl, h1, _, hc, _⟩
  · cases hb
  · cases hb; exact ⟨h1, blockOf_lt hc⟩
theorem Stk.of_blk {h h' : Heap} {lo k : Nat} {v : V} {cs : List V} (ho : Stk h lo k v cs) (hh : ∀ b, blkOf v = some b → blockOf h' b = blockOf h b) : Stk h' lo k v cs := by
  rcases ho with ⟨rfl, rfl⟩ | ⟨c, n, cap, J, rfl, h1, h2, hc, h3, h4⟩
  · exact .inl ⟨rfl, rfl⟩
  · exact .inr ⟨c, n, cap, J, rfl, h1, h2, by rw [hh c rfl]; exact hc, h3, h4⟩
theorem Stk.push {h : Heap} {lo k : Nat} {v : V} {cs : List V} (ho : Stk h lo k v cs) (x : Heap) : Stk (h ++ x) lo k v cs :=
  ho.of_blk fun _ hb => blockOf_left (ho.blk hb).2
theorem Stk.set {h : Heap} {lo k c : Nat} {v : V} {cs : List V} (ho : Stk h lo k v cs) (hc : blkOf v ≠ some c) (x : Option (List V)) : Stk (h.set c x) lo k v cs :=
  ho.of_blk fun b hb => blockOf_set_ne' (by rintro rfl; exact hc hb)
theorem Stk.leaf {h : Heap} {lo k : Nat} {v : V} {cs : List V} (ho : Stk h lo k v cs) : v.leaf = true := by
  rcases ho with ⟨rfl, _⟩ | ⟨b, n, cap, J, rfl, _⟩ <;> rfl
theorem Stk.cells {h : Heap} {lo k : Nat} {v : V} {cs : List V} (ho : Stk h lo k v cs) : cellsOf v = some [v] := by
  rcases ho with ⟨rfl, _⟩ | ⟨b, n, cap, J, rfl, _⟩ <;> rfl
theorem Stk.len {P : Program} {t e : TypeId} {h : Heap} {lo k : Nat} {v : V} {cs : List V} (hu : P.underlying t = some (.slice e)) (hk : 0 < k) (ho : Stk h lo k v cs) : lenV P t v = some (.int .i64 (cs.length / k : Nat)) := by
  rcases ho with ⟨rfl, rfl⟩ | ⟨b, n, cap, J, rfl, _, hn, _⟩
  · rw [lenN_eq hu]; simp
  · rw [lenS_eq hu, hn, Nat.mul_div_cancel _ hk]
theorem Stk.pos {h : Heap} {lo k : Nat} {v : V} {cs : List V} (ho : Stk h lo k v cs) (hc : cs ≠ []) : ∃ b n cap J, v = .sl b 0 n cap k ∧ lo ≤ b ∧ b < h.length ∧ cs.length = n * k ∧ blockOf h b = some (cs ++ J) ∧ (cs ++ J).length = cap * k ∧ n ≤ cap := by
  rcases ho with ⟨rfl, rfl⟩ | ⟨b, n, cap, J, rfl, h1, h2, h3, h4, h5⟩
  · exact absurd rfl hc
  · exact ⟨b, n, cap, J, rfl, h1, blockOf_lt h3, h2, h3, h4, h5⟩
/-- A shorter one. -/
theorem Stk.pop {h : Heap} {lo k b n cap m : Nat} {cs cs' r : List V} (ho : Stk h lo k (.sl b 0 n cap k) cs) (hc : cs = cs' ++ r) (hm : cs'.length = m * k) (hk : 0 < k) : Stk h lo k (.sl b 0 m cap k) cs' := by
  rcases ho with ⟨hh, _⟩ | ⟨b', n', cap', J, hv, h1, h2, h3, h4, h5⟩
  · cases hh
  · cases hv
    subst hc
    refine .inr ⟨b, m, cap, r ++ J, rfl, h1, hm, by rw [h3, List.append_assoc], by rw [← List.append_assoc]; exact h4, ?_⟩
    rw [List.length_append, hm] at h2
    have : m * k ≤ n * k := by omega
    have := Nat.le_of_mul_le_mul_right this hk
    omega

@[simp] theorem isMap_setI {k : IntKind} {l : List Int} {i : Nat} {x : Int} : isMap ((l.map (V.int k)).set i (.int k x)) = false := by rw [ints_set]; exact isMap_ints
theorem putAt_len : ∀ (vs cs : List V) (off : Nat), (putAt cs off vs).length = cs.length
  | [], _, _ => rfl
  | v :: r, cs, off => by rw [putAt_cons, putAt_len r]; simp [setS]
theorem putAt_mid : ∀ (new a J : List V), new.length ≤ J.length → putAt (a ++ J) a.length new = a ++ new ++ J.drop new.length
  | [], a, J, _ => by simp
  | v :: r, a, J, h => by
    rcases J with _ | ⟨x, J⟩
    · simp at h
    · have e : setS (a ++ x :: J) a.length v = (a ++ [v]) ++ J := by
        rw [setS, List.set_append_right _ _ (Nat.le_refl _)]
        simp
      have := putAt_mid r (a ++ [v]) J (by simpa using h)
      rw [putAt_cons, e]
      simp only [List.length_append, List.length_cons, List.length_nil] at this
      rw [this]
      simp

section
variable {P : Program} {md : FuncId → Nat} {call : Callf} {cfg : Cfg} {n : Nat}
/-- append of one element. -/
theorem wS_appP {dst : Option Tmp} {fr : List V} {ops : Array Oper} {rest : List Oper} {Q : KontO} {h : Heap} {d : V} {cs new : List V} {lo k y : Nat} (ho : Stk h lo k d cs) (hlo : cfg.lo ≤ lo) (hthr : cfg.thr ≤ lo) (hH : lo ≤ h.length)
    (hnew : new.length = k) (hmn : isMap new = false) (hk : 0 < k) (hsz : (cs.length / k + 1) * y ≤ 1099511627776) (hlen : cs.length / k + 1 ≤ 1099511627776)
    (H : ∀ d' h', Stk h' lo k d' (cs ++ new) → d'.leaf = true → h'.take lo = h.take lo → h.length ≤ h'.length → (∀ c, blkOf d ≠ some c → c < h.length → blockOf h' c = blockOf h c) → (blkOf d' = blkOf d ∨ blkOf d' = some h.length) → @wO P md call cfg ⟨ops⟩ ⟨rest⟩ (put fr dst d') h' ⟨Q⟩) :
    @wS P md call cfg ⟨dst⟩ ⟨fr⟩ (appD cfg h k y d 1 new) ⟨ops⟩ ⟨rest⟩ ⟨Q⟩ := by
  rcases ho with ⟨rfl, rfl⟩ | ⟨b, n, cap, J, rfl, h1, h2, h3, h4, h5⟩
  · simp only [List.length_nil, Nat.zero_div, Nat.zero_add] at hsz hlen
    rw [appD_nils hsz hlen (by omega), wS_some]
    refine H _ _ (.inr ⟨h.length, 1, 1, [], rfl, hH, by simpa using hnew, ?_, by simpa using hnew, Nat.le_refl _⟩) rfl ?_ (by simp) (fun c _ hc => blockOf_left hc) (.inr rfl)
    · simp [hmn]
    · rw [List.take_append_of_le_length hH]
  · rw [h2, Nat.mul_div_cancel _ hk] at hsz hlen
    have hbl := blockOf_lt h3
    have hw : cfg.wr b = true := by simp only [Cfg.wr, Bool.or_eq_true, decide_eq_true_eq]; left; omega
    by_cases hc : n + 1 ≤ cap
    · have hr : roomy (n + 1) y = true := by simp [roomy]; omega
      have hJ : new.length ≤ J.length := by
        simp only [List.length_append] at h4
        have : (n + 1) * k ≤ cap * k := Nat.mul_le_mul_right _ hc
        rw [Nat.add_mul] at this
        omega
      have hst : storeCellsV cfg h b (0 + n * k) new = some (h.set b (some (cs ++ new ++ J.drop new.length))) := by
        rw [storeCells_eq, h3]
        simp only [Option.bind_some]
        rw [Nat.zero_add, ← h2, if_pos, putAt_mid _ _ _ hJ]
        simp only [hw, Bool.and_true, Bool.and_eq_true, decide_eq_true_eq, Bool.or_eq_true, List.length_append]
        exact ⟨by omega, .inl (by omega)⟩
      have e : appD cfg h k y (.sl b 0 n cap k) 1 new = some (.sl b 0 (n + 1) cap k, h.set b (some (cs ++ new ++ J.drop new.length))) := by
        simp only [appD, hr, beq_self_eq_true, Bool.and_true, hc, if_true, hst, decide_true]
      rw [e, wS_some]
      have hnm : isMap (cs ++ new ++ J.drop new.length) = false := by
        have hm0 := isMap_of_block h3
        cases cs with
        | nil => 
          cases new with
          | nil => simp at hnew; omega
          | cons x new => cases x <;> first | rfl | simp [isMap] at hmn
        | cons x cs => cases x <;> first | rfl | simp [isMap] at hm0
      refine H _ _ (.inr ⟨b, n + 1, cap, J.drop new.length, rfl, h1, ?_, ?_, ?_, hc⟩) rfl ?_ (by simp) (fun c hcb hc => blockOf_set_ne' (by rintro rfl; exact hcb rfl)) (.inl rfl)
      · rw [List.length_append, h2, hnew, Nat.add_mul, Nat.one_mul]
      · rw [blockOf_set_self hbl, hnm]
        rfl
      · simp only [List.length_append, List.length_drop] at h4 ⊢
        omega
      · rw [List.take_set_of_le h1]
    · have hcap : cap = n := by omega
      subst hcap
      have hJ : J = [] := by
        simp only [List.length_append] at h4
        exact List.length_eq_zero_iff.1 (by omega)
      subst hJ
      rw [List.append_nil] at h3
      rw [appD_grow h3 hw hsz hlen (by omega) (by omega), wS_some, ← h2, List.take_length]
      refine H _ _ (.inr ⟨h.length, cap + 1, cap + 1, [], rfl, hH, ?_, ?_, ?_, Nat.le_refl _⟩) rfl ?_ (by simp) (fun c hcb hc => ?_) (.inr rfl)
      · rw [List.length_append, h2, hnew, Nat.add_mul, Nat.one_mul]
      · have := isMap_append (isMap_of_block h3) hmn
        simp [this]
      · rw [List.append_nil, List.length_append, h2, hnew, Nat.add_mul, Nat.one_mul]
      · rw [List.take_append_of_le_length (by simpa using hH), List.take_set_of_le h1]
      · rw [blockOf_left (by simpa using hc), blockOf_set_ne' (by rintro rfl; exact hcb rfl)]
end
end Go.Ab
/- Classes, matching, base: the program. -/
namespace Go.Ab
open Go.Proofs
namespace Bi
/-- What matching hands back. -/
structure MOK (c M : List Int) : Prop where
  len : M.length = c.length
  at_ : ∀ (i : Nat) (x : Int), c[i]? = some x → ini x = true → M[i]? = some (mt c i)

theorem mt_at {c : List Int} {i : Nat} (h : i < c.length) : mt c i = -1 ∨ ∃ m : Nat, mt c i = m ∧ i < m ∧ m < c.length ∧ mscan (c.drop (i + 1)) 0 = some (m - (i + 1)) := by
  unfold mt
  cases hm : mscan (c.drop (i + 1)) 0 with
  | none => exact .inl rfl
  | some m =>
    have := mscan_lt _ _ _ hm
    simp at this
    refine .inr ⟨i + 1 + m, rfl, by omega, by omega, by congr 1; omega⟩

section
variable {P : Program} {md' : FuncId → Nat} {n : Nat} {prim : FuncId → Option Prim}
/-- A call of mode 0 whose result is only described: the same whatever the heap. -/
theorem call0y {d : Nat} {f : FuncId} {fn : Func} {c : Code} {k : Nat} {rs : List ResultVar} {args : List V} {Post : V → Prop} (hm : md' f = 0) (hp : prim f = none) (hf : P.funcs[f]? = some fn) (hb : fn.body = some c) (hk : fn.ntmps = k)
    (hr : fn.results.toList = rs) (ha : args.all V.noref = true)
    (hw : @wC P md' (callN P md' prim n d) ⟨0, none, 0⟩ n ⟨c⟩ (args ++ List.replicate (k - args.length) .no) [] ⟨@kFn P ⟨rs⟩ ⟨fun r' h' => ∃ r, frz h' 0 6 r' = some r ∧ Post r⟩⟩) :
    ∃ r, (∀ cfg h, callM md' (callN P md' prim n (d + 1)) cfg f args h = some (r, h)) ∧ Post r := by
  obtain ⟨r', h', h1, r, h2, h3⟩ := callN_of hp hf hb hk hr hw
  exact ⟨r, fun cfg h => by simp only [callM, hm, ha, if_true, h1, h2], h3⟩
end

section
variable {prim : FuncId → Option Prim} (d : Nat) (cfg : Cfg) (h : Heap)

theorem ini_ok (hp : prim 53 = none) (x : Int) : callM md (K prim (d + 1)) cfg 53 [.int .i64 x] h = some (.bool (ini x), h) := by
  refine call0 rfl hp Try.func53 rfl rfl rfl (by simp) ?_
  unfold ini
  simp
  by_cases h1 : x = 19 <;> by_cases h2 : x = 20 <;> by_cases h3 : x = 21 <;> simp_all

/-- The classes of a text. -/
theorem classes_ok (hp : prim 26 = none) (B : Int → Int) (hB : ∀ cfg h r, callM md (K prim (d + 1)) cfg 20 [.int .i32 r] h = some (.int .i64 (B r), h)) (t : List Int) (ht : t.length ≤ 2000) :
    callM md (K prim (d + 2)) cfg 26 [rl t] h = some (il (t.map B), h) := by
  refine call0 rfl hp Try.func26 rfl rfl rfl (by simp) ?_
  simp (disch := omega)
  refine wC_loop (fun m fr H => ∃ (i : Nat) (o : List Int), i ≤ t.length ∧ m = t.length - i ∧ o.length = t.length ∧ o.take i = (t.map B).take i ∧ H = [some (o.map (V.int .i64))] ∧
    Slots 23 [(0, rl t), (3, .sl 0 0 t.length t.length 1), (9, rl t), (10, .int .i64 t.length), (11, .int .i64 i)] fr) (m := t.length) (by omega) ⟨0, List.replicate t.length 0, by omega, by omega, by simp, rfl, by simp [zerosFor_int], by simp⟩ ?_
  rintro m fr H ⟨i, o, hi, rfl, ho, htk, rfl, hs⟩
  obtain ⟨j, rfl⟩ := hs.ex
  clear hs
  by_cases hlt : i < t.length
  · obtain ⟨x, hx⟩ : ∃ x, t[i]? = some x := ⟨_, List.getElem?_eq_getElem hlt⟩
    have hle : i + 1 ≤ o.length := by omega
    simp (disch := omega) [hlt, hx, hB, hle, -getElem?_pos]
    refine Rnd_of (m' := t.length - (i + 1)) (by omega) ⟨i + 1, o.set i (B x), by omega, rfl, by simpa using ho, ?_, by simp, by simp (disch := omega) [wrap64]⟩
    rw [List.take_add_one, List.take_add_one, List.take_set_of_le (Nat.le_refl _), htk, List.getElem?_set_self (by omega)]
    simp [hx]
  · obtain rfl : i = t.length := by omega
    have e : o = t.map B := by
      rw [List.take_of_length_le (by omega), List.take_of_length_le (by simp)] at htk
      exact htk
    subst e
    simp
    have hb0 : blockOf [some ((t.map B).map (V.int .i64))] 0 = some ((t.map B).map (V.int .i64)) := by
      rw [blockOf_zero]; simp only [isMap_ints]; rfl
    have := frz_ints (d := 4) (cap := t.length) (k := .i64) hb0 (Nat.zero_le _) ho
    simpa [il, Function.comp_def] using this

end

/-- What is known of matching's stack: the q-th entry from above, and what is left of the text. -/
def Opens (c M : List Int) (i : Nat) (st : List Nat) : Prop := ∀ (q k : Nat), st[q]? = some k → k < i ∧ M[k]? = some (-1) ∧ mscan (c.drop (k + 1)) 0 = (mscan (c.drop i) q).map (· + (i - (k + 1)))
structure MI (c M : List Int) (i : Nat) (st : List Nat) : Prop where
  len : M.length = c.length
  op : Opens c M i st
  dec : st.Pairwise (· > ·)
  ok : ∀ (j : Nat) (x : Int), j < i → c[j]? = some x → ini x = true → j ∈ st ∨ M[j]? = some (mt c j)

theorem MI.stl {c M : List Int} {i : Nat} {st : List Nat} (h : MI c M i st) : st.length ≤ i := by
  have key : ∀ (st : List Nat) (i : Nat), st.Pairwise (· > ·) → (∀ k ∈ st, k < i) → st.length ≤ i := by
    intro st
    induction st with
    | nil => intro i _ _; simp
    | cons a st ih =>
      intro i hp hk
      have hp := List.pairwise_cons.1 hp
      have := ih a hp.2 (fun k hk => hp.1 k hk)
      have := hk a (List.mem_cons_self ..)
      simp
      omega
  refine key st i h.dec fun k hk => ?_
  obtain ⟨q, hq, rfl⟩ := List.mem_iff_getElem.1 hk
  exact (h.op q _ (List.getElem?_eq_getElem hq)).1
theorem MI.zero {c : List Int} : MI c (List.replicate c.length 0) 0 [] := ⟨by simp, fun q k h => by simp at h, List.Pairwise.nil, fun j x h => by omega⟩
theorem MI.fin {c M : List Int} {st : List Nat} (h : MI c M c.length st) : MOK c M := by
  refine ⟨h.len, fun i x hx hi => ?_⟩
  have hil := (List.getElem?_eq_some_iff.1 hx).1
  rcases h.ok i x hil hx hi with hs | hs
  · obtain ⟨q, hq, rfl⟩ := List.mem_iff_getElem.1 hs
    obtain ⟨_, h1, h2⟩ := h.op q _ (List.getElem?_eq_getElem hq)
    rw [List.drop_eq_nil_of_le (Nat.le_refl _)] at h2
    rw [h1, mt, h2]
    rfl
  · exact hs
theorem drop_at {c : List Int} {i : Nat} {x : Int} (hx : c[i]? = some x) : c.drop i = x :: c.drop (i + 1) := by
  have hil := (List.getElem?_eq_some_iff.1 hx).1
  rw [List.drop_eq_getElem_cons hil]
  congr 1
  exact (List.getElem?_eq_some_iff.1 hx).2
theorem map_shift {o : Option Nat} {i k : Nat} (hk : k < i) : (o.map (· + 1)).map (· + (i - (k + 1))) = o.map (· + (i + 1 - (k + 1))) := by
  cases o with
  | none => rfl
  | some m => simp; omega
theorem MI.open_ {c M : List Int} {i : Nat} {st : List Nat} {x : Int} (h : MI c M i st) (hx : c[i]? = some x) (hi : ini x = true) : MI c (M.set i (-1)) (i + 1) (i :: st) := by
  have hil := (List.getElem?_eq_some_iff.1 hx).1
  have hM := h.len
  refine ⟨by simpa using h.len, fun q k hq => ?_, List.pairwise_cons.2 ⟨fun k hk => ?_, h.dec⟩, fun j y hj hy hyi => ?_⟩
  · rcases q with _ | q
    · simp at hq
      subst hq
      refine ⟨by omega, by rw [List.getElem?_set_self (by omega)], ?_⟩
      cases mscan (c.drop (i + 1)) 0 <;> simp
    · obtain ⟨h1, h2, h3⟩ := h.op q k (by simpa using hq)
      refine ⟨by omega, by rw [List.getElem?_set_ne (by omega)]; exact h2, ?_⟩
      rw [h3, drop_at hx, mscan_ini hi, map_shift h1]
  · obtain ⟨q, hq, rfl⟩ := List.mem_iff_getElem.1 hk
    exact (h.op q _ (List.getElem?_eq_getElem hq)).1
  · by_cases e : j = i
    · exact .inl (by simp [e])
    · rcases h.ok j y (by omega) hy hyi with hs | hs
      · exact .inl (List.mem_cons_of_mem _ hs)
      · exact .inr (by rw [List.getElem?_set_ne (by omega)]; exact hs)
theorem MI.other {c M : List Int} {i : Nat} {st : List Nat} {x : Int} (h : MI c M i st) (hx : c[i]? = some x) (hi : ini x = false) (hp : x ≠ 22 ∨ st = []) : MI c (M.set i (-1)) (i + 1) st := by
  have hil := (List.getElem?_eq_some_iff.1 hx).1
  have hM := h.len
  refine ⟨by simpa using h.len, fun q k hq => ?_, h.dec, fun j y hj hy hyi => ?_⟩
  · obtain ⟨h1, h2, h3⟩ := h.op q k hq
    refine ⟨by omega, by rw [List.getElem?_set_ne (by omega)]; exact h2, ?_⟩
    rcases hp with hp | rfl
    · rw [h3, drop_at hx, mscan_oth hi hp, map_shift h1]
    · simp at hq
  · by_cases e : j = i
    · subst e; rw [hx] at hy; cases hy; rw [hi] at hyi; cases hyi
    · rcases h.ok j y (by omega) hy hyi with hs | hs
      · exact .inl hs
      · exact .inr (by rw [List.getElem?_set_ne (by omega)]; exact hs)
theorem MI.close {c M : List Int} {i k0 : Nat} {st : List Nat} (h : MI c M i (k0 :: st)) (hx : c[i]? = some 22) : MI c (((M.set i (-1)).set i k0).set k0 i) (i + 1) st := by
  have hil := (List.getElem?_eq_some_iff.1 hx).1
  have hM := h.len
  have hd := List.pairwise_cons.1 h.dec
  obtain ⟨g1, g2, g3⟩ := h.op 0 k0 rfl
  have hk0 : mt c k0 = i := by
    rw [mt, g3, drop_at hx, mscan_pd0]
    simp
    omega
  refine ⟨by simpa using h.len, fun q k hq => ?_, hd.2, fun j y hj hy hyi => ?_⟩
  · obtain ⟨h1, h2, h3⟩ := h.op (q + 1) k (by simpa using hq)
    have hne : k0 > k := hd.1 k (List.mem_of_getElem? hq)
    refine ⟨by omega, by rw [List.getElem?_set_ne (by omega), List.getElem?_set_ne (by omega), List.getElem?_set_ne (by omega)]; exact h2, ?_⟩
    rw [h3, drop_at hx, mscan_pdS]
    exact map_shift h1
  · by_cases e : j = i
    · subst e; rw [hx] at hy; cases hy; cases hyi
    · by_cases e2 : j = k0
      · subst e2
        right
        rw [List.getElem?_set_self (by simp; omega), hk0]
      · rcases h.ok j y (by omega) hy hyi with hs | hs
        · rcases List.mem_cons.1 hs with hs | hs
          · exact absurd hs e2
          · exact .inl hs
        · right
          rw [List.getElem?_set_ne (by omega), List.getElem?_set_ne (by omega), List.getElem?_set_ne (by omega)]
          exact hs

/-- The stack's cells. -/
def opc (st : List Nat) : List V := st.reverse.map fun k : Nat => V.int .i64 (k : Int)
theorem opc_cons (k : Nat) (st : List Nat) : opc (k :: st) = opc st ++ [V.int .i64 k] := by simp [opc]
theorem opc_len (st : List Nat) : (opc st).length = st.length := by simp [opc]

section
variable {prim : FuncId → Option Prim} (d : Nat)
set_option maxHeartbeats 2000000 in
theorem matching_ok (hp : prim 28 = none) (hp2 : prim 53 = none) (c : List Int) (hc : c.length ≤ 2000) :
    ∃ M, (∀ cfg h, callM md (K prim (d + 2)) cfg 28 [il c] h = some (il M, h)) ∧ MOK c M := by
  suffices H : ∃ r, (∀ cfg h, callM md (K prim (d + 2)) cfg 28 [il c] h = some (r, h)) ∧ ∃ M, r = il M ∧ MOK c M by
    obtain ⟨r, h1, M, rfl, h2⟩ := H
    exact ⟨M, h1, h2⟩
  refine call0y rfl hp Try.func28 rfl rfl rfl (by simp) ?_
  have hI := fun cfg h x => ini_ok (prim := prim) d cfg h hp2 x
  simp (disch := omega)
  refine wC_loop (fun m fr H => ∃ (i : Nat) (M : List Int) (st : List Nat) (v : V), i ≤ c.length ∧ m = c.length - i ∧ MI c M i st ∧ H.take 1 = [some (M.map (V.int .i64))] ∧ 1 ≤ H.length ∧ Stk H 1 1 v (opc st) ∧
    Slots 57 [(0, il c), (3, .sl 0 0 c.length c.length 1), (4, v), (11, il c), (12, .int .i64 c.length), (13, .int .i64 i)] fr) (m := c.length) (by omega) ⟨0, _, [], .nils, by omega, by omega, MI.zero, by simp [zerosFor_int], by simp, .inl ⟨rfl, rfl⟩, by simp⟩ ?_
  rintro m fr H ⟨i, M, st, v, hi, rfl, hMI, ht, hH1, hst, hs⟩
  obtain ⟨j, rfl⟩ := hs.ex
  clear hs
  have hlen := hMI.len
  obtain ⟨T, rfl⟩ : ∃ T, H = some (M.map (V.int .i64)) :: T := by
    rcases H with _ | ⟨a, T⟩
    · simp at hH1
    · simp at ht; exact ⟨T, by rw [ht]⟩
  clear ht hH1
  by_cases hlt : i < c.length
  · obtain ⟨x, hx⟩ : ∃ x, c[i]? = some x := ⟨_, List.getElem?_eq_getElem hlt⟩
    have hle : i + 1 ≤ M.length := by omega
    have hset : ∀ y : Option (List V), Stk (y :: T) 1 1 v (opc st) := fun y => hst.of_blk fun b hb => by
      obtain ⟨b', rfl⟩ : ∃ b', b = b' + 1 := ⟨b - 1, by have := (hst.blk hb).1; omega⟩
      simp
    have hsl := hst.len (show Try.prog.underlying 22 = some (.slice 3) by kernel_rfl) (by omega)
    simp only [Nat.div_one, opc_len] at hsl
    cases hix : ini x
    · by_cases hpd : x = 22
      · subst hpd
        rcases st with _ | ⟨k0, st⟩
        · simp at hsl
          simp (disch := omega) [hlt, hx, hle, hI, hix, hsl, -getElem?_pos]
          exact Rnd_of (m' := c.length - (i + 1)) (by omega) ⟨i + 1, _, [], v, by omega, rfl, hMI.other hx hix (.inr rfl), by simp, by simp, by simpa using hset _, by simp (disch := omega) [wrap64]⟩
        · simp at hsl
          obtain ⟨b, n, cap, J, rfl, hb1, hbl, hn, hbk, hJ, hnc⟩ := hst.pos (by simp [opc_cons])
          simp [opc_len] at hn
          subst hn
          obtain ⟨b, rfl⟩ : ∃ b', b = b' + 1 := ⟨b - 1, by omega⟩
          rw [blockOf_succ] at hbk
          have hsk : slot (opc (k0 :: st) ++ J) st.length = some (.int .i64 k0) := by
            rw [← opc_len st, opc_cons, List.append_assoc, slot, List.getElem?_append_right (Nat.le_refl _)]
            simp
          have hk0 := (hMI.op 0 k0 rfl).1
          have hstl := hMI.stl
          simp at hstl
          have hle2 : k0 + 1 ≤ M.length := by omega
          simp (disch := omega) [hlt, hx, hle, hle2, hI, hix, hbk, hsk, wrap64, -getElem?_pos, -List.map_set]
          refine Rnd_of (m' := c.length - (i + 1)) (by omega) ⟨i + 1, _, st, .sl (b + 1) 0 st.length cap 1, by omega, rfl, hMI.close hx, by simp, by simp, ?_, by simp (disch := omega) [wrap64]⟩
          refine (hset _).pop (opc_cons k0 st) (by simp [opc_len]) (by omega)
      · simp (disch := omega) [hlt, hx, hle, hI, hix, hpd, -getElem?_pos]
        exact Rnd_of (m' := c.length - (i + 1)) (by omega) ⟨i + 1, _, st, v, by omega, rfl, hMI.other hx hix (.inl hpd), by simp, by simp, by simpa using hset _, by simp (disch := omega) [wrap64]⟩
    · simp (disch := omega) [hlt, hx, hle, hI, hix, -getElem?_pos]
      refine wS_appP (lo := 1) (cs := opc st) ?_ (by simp) (by simp) (by simp) rfl rfl (by omega) (by simp [opc_len]; have := hMI.stl; omega) (by simp [opc_len]; have := hMI.stl; omega) ?_
      · have := (hset (some ((M.map (V.int .i64)).set i (.int .i64 (-1))))).push [some [V.int .i64 i]]
        simpa using this
      · intro d' h' hst' hd' htk hlen' hot hb
        have h1 : ∃ T', h' = some ((M.map (V.int .i64)).set i (.int .i64 (-1))) :: T' := by
          rcases h' with _ | ⟨a, T'⟩
          · simp at hlen'
          · simp at htk; exact ⟨T', by rw [htk]⟩
        obtain ⟨T', rfl⟩ := h1
        simp (disch := omega) [wrap64]
        exact Rnd_of (m' := c.length - (i + 1)) (by omega) ⟨i + 1, _, i :: st, d', by omega, rfl, hMI.open_ hx hix, by simp, by simp, by rw [opc_cons]; exact hst', by simp⟩
  · obtain rfl : i = c.length := by omega
    simp
    have hb0 : blockOf (some (M.map (V.int .i64)) :: T) 0 = some (M.map (V.int .i64)) := by simp
    exact ⟨_, frz_ints (d := 4) (k := .i64) hb0 (Nat.zero_le _) hlen, M, rfl, hMI.fin⟩
end
end Bi
end Go.Ab
