/- More for simp: calls whose result is only described; slices that are the function's own. -/
import Derived.Test.YtcedojbifnangaaAbW3
namespace Go.Ab

@[simp] theorem ev_nilp {fr : List V} : ev fr (.const (.pointer none)) = some .nilp := rfl
@[simp] theorem ev_nilf {fr : List V} : ev fr (.const .nilFunc) = some .nilf := rfl
@[simp] theorem ev_nilm {fr : List V} : ev fr (.const (.map none)) = some .nilm := rfl

theorem set_same {h : Heap} {b : Nat} {cs : List V} (hb : blockOf h b = some cs) : h.set b (some cs) = h := by
  have := live_of_blockOf hb
  apply List.ext_getElem?
  intro i
  by_cases hi : b = i
  · subst hi
    rw [List.getElem?_set_self (blockOf_lt hb), this]
  · rw [List.getElem?_set_ne hi]
section
variable {P : Program} {md : FuncId → Nat} {cfg : Cfg} {n : Nat} {prim : FuncId → Option Prim}
theorem call0x {d : Nat} {f : FuncId} {fn : Func} {c : Code} {k : Nat} {rs : List ResultVar} {args : List V} {h : Heap} {Post : V → Prop} (hm : md f = 0) (hp : prim f = none) (hf : P.funcs[f]? = some fn) (hb : fn.body = some c) (hk : fn.ntmps = k)
    (hr : fn.results.toList = rs) (ha : args.all V.noref = true)
    (hw : @wC P md (callN P md prim n d) ⟨0, none, 0⟩ n ⟨c⟩ (args ++ List.replicate (k - args.length) .no) [] ⟨@kFn P ⟨rs⟩ ⟨fun r' h' => ∃ r, frz h' 0 6 r' = some r ∧ Post r⟩⟩) :
    ∃ r, callM md (callN P md prim n (d + 1)) cfg f args h = some (r, h) ∧ Post r := by
  obtain ⟨r', h', h1, r, h2, h3⟩ := callN_of hp hf hb hk hr hw
  exact ⟨r, by simp only [callM, hm, ha, if_true, h1, h2], h3⟩
theorem call1x {d : Nat} {f : FuncId} {fn : Func} {c : Code} {k : Nat} {rs : List ResultVar} {args : List V} {h : Heap} {Post : V → Heap → Prop} (hm : md f = 1) (hp : prim f = none) (hf : P.funcs[f]? = some fn) (hb : fn.body = some c) (hk : fn.ntmps = k)
    (hr : fn.results.toList = rs)
    (hw : @wC P md (callN P md prim n d) ⟨cfg.lo, cfg.ex, h.length⟩ n ⟨c⟩ (args ++ List.replicate (k - args.length) .no) h ⟨@kFn P ⟨rs⟩ ⟨fun r' h' => ∃ r, frz h' h.length 6 r' = some r ∧ Post r (h'.take h.length)⟩⟩) :
    ∃ r h2, callM md (callN P md prim n (d + 1)) cfg f args h = some (r, h2) ∧ Post r h2 := by
  obtain ⟨r', h', h1, r, h2, h3⟩ := callN_of hp hf hb hk hr hw
  exact ⟨r, _, by simp only [callM, hm, h1, h2], h3⟩
theorem call2x {d : Nat} {f : FuncId} {fn : Func} {c : Code} {k : Nat} {rs : List ResultVar} {args : List V} {h : Heap} {Post : V → Heap → Prop} (hm : md f = 2) (hp : prim f = none) (hf : P.funcs[f]? = some fn) (hb : fn.body = some c) (hk : fn.ntmps = k)
    (hr : fn.results.toList = rs)
    (hw : @wC P md (callN P md prim n d) cfg n ⟨c⟩ (args ++ List.replicate (k - args.length) .no) h ⟨@kFn P ⟨rs⟩ ⟨Post⟩⟩) :
    ∃ r h2, callM md (callN P md prim n (d + 1)) cfg f args h = some (r, h2) ∧ Post r h2 := by
  obtain ⟨r', h', h1, h2⟩ := callN_of hp hf hb hk hr hw
  exact ⟨r', h', by simp only [callM, hm, h1], h2⟩
end
@[simp] theorem elemsOf_sl {h : Heap} {b off len cap : Nat} : elemsOf h (.sl b off len cap 1) = (blockOf h b).bind fun cs => if off + len ≤ cs.length then some ((cs.drop off).take len) else none := by
  simp only [elemsOf]; cases blockOf h b with
  | none => rfl
  | some cs => simp
theorem bytesIn_ints : ∀ l : List Int, bytesIn (l.map (V.int .u8)) = some (l.map fun n => UInt8.ofNat n.toNat)
  | [] => rfl
  | x :: l => by simp [bytesIn, bytesIn_ints l]
theorem runesOf_len (s : ByteArray) : ∀ (n i : Nat), (runesOf s n i).length ≤ n
  | 0, _ => Nat.le_refl _
  | n + 1, i => by
    simp only [runesOf]
    split
    · have := runesOf_len s n (i + (Utf8.decode s i).2)
      simp only [List.length_cons]
      omega
    · simp

theorem mapM_frz_take {h : Heap} {n d : Nat} {k : IntKind} (l : List Int) (off len : Nat) : (((l.map (V.int k)).drop off).take len).mapM (frz h n (d + 1)) = some (((l.drop off).take len).map (V.int k)) := by
  rw [← List.map_drop, ← List.map_take]
  exact mapM_frz_ints _

/-- A part of a block of integers frozen. -/
theorem frz_part {h : Heap} {n d b off len cap : Nat} {k : IntKind} {l : List Int} (hb : blockOf h b = some (l.map (V.int k))) (hn : n ≤ b) (hl : off + len ≤ l.length) : frz h n (d + 2) (.sl b off len cap 1) = some (.lst (((l.drop off).take len).map fun x => [.int k x])) := by
  have e : ¬ b < n := by omega
  have hlen : ((l.drop off).take len).length = len := by simp; omega
  have e3 : chunk 1 len (((l.drop off).take len).map (V.int k)) = ((l.drop off).take len).map fun x => [V.int k x] := by
    have := chunk_one (((l.drop off).take len).map (V.int k))
    simp only [List.length_map, hlen, List.map_map] at this
    exact this
  have e4 : (((l.drop off).take len).map (V.int k)).all V.rf = true := by
    rw [List.all_eq_true]
    intro c hc
    obtain ⟨x, _, rfl⟩ := List.mem_map.1 hc
    rfl
  rw [frz_sl]
  simp only [e, if_false, hb, Nat.mul_one, mapM_frz_take, e3, e4, if_true]
  rw [if_pos (by simpa using hl)]
theorem frzA_part {h : Heap} {b off len cap : Nat} {k : IntKind} {l : List Int} (hb : blockOf h b = some (l.map (V.int k))) (hl : off + len ≤ l.length) : frzA h (.sl b off len cap 1) = some (.lst (((l.drop off).take len).map fun x => [.int k x])) := by
  unfold frzA
  rw [frz_part (d := 4) hb (Nat.zero_le _) hl]
  rfl

/-- A slice of integers that is the function's own: nil, or a block from lo on, whole. -/
def OwnL (h : Heap) (lo : Nat) (k : IntKind) (v : V) (l : List Int) : Prop := (v = .nils ∧ l = []) ∨ (∃ b, v = .sl b 0 l.length l.length 1 ∧ lo ≤ b ∧ blockOf h b = some (l.map (V.int k)))

theorem OwnL.frzA {h : Heap} {lo : Nat} {k : IntKind} {v : V} {l : List Int} (ho : OwnL h lo k v l) : frzA h v = some (.lst (l.map fun x => [.int k x])) := by
  rcases ho with ⟨rfl, rfl⟩ | ⟨b, rfl, _, hb⟩
  · rfl
  · rw [frzA_part hb (by omega)]
    simp
theorem OwnL.len {P : Program} {t e : TypeId} {h : Heap} {lo : Nat} {k : IntKind} {v : V} {l : List Int} (hu : P.underlying t = some (.slice e)) (ho : OwnL h lo k v l) : lenV P t v = some (.int .i64 l.length) := by
  rcases ho with ⟨rfl, rfl⟩ | ⟨b, rfl, _, hb⟩
  · exact lenN_eq hu
  · exact lenS_eq hu
theorem OwnL.mono {h h' : Heap} {lo : Nat} {k : IntKind} {v : V} {l : List Int} (ho : OwnL h lo k v l) (hh : ∀ b, lo ≤ b → b < h.length → blockOf h' b = blockOf h b) : OwnL h' lo k v l := by
  rcases ho with ⟨rfl, rfl⟩ | ⟨b, rfl, h1, hb⟩
  · exact .inl ⟨rfl, rfl⟩
  · exact .inr ⟨b, rfl, h1, by rw [hh b h1 (blockOf_lt hb)]; exact hb⟩

section
variable {P : Program} {md : FuncId → Nat} {call : Callf} {cfg : Cfg} {n : Nat}
theorem wS_app {dst : Option Tmp} {fr : List V} {ops : Array Oper} {rest : List Oper} {Q : KontO} {h : Heap} {d : V} {l : List Int} {lo y : Nat} {k : IntKind} {x : Int} (ho : OwnL h lo k d l) (hlo : cfg.lo ≤ lo) (hH : lo ≤ h.length)
    (hsz : (l.length + 1) * y ≤ 1099511627776) (hlen : l.length + 1 ≤ 1099511627776)
    (H : ∀ d' h', OwnL h' lo k d' (l ++ [x]) → h'.take lo = h.take lo → lo ≤ h'.length → @wO P md call cfg ⟨ops⟩ ⟨rest⟩ (put fr dst d') h' ⟨Q⟩) :
    @wS P md call cfg ⟨dst⟩ ⟨fr⟩ (appD cfg h 1 y d 1 [.int k x]) ⟨ops⟩ ⟨rest⟩ ⟨Q⟩ := by
  rcases ho with ⟨rfl, rfl⟩ | ⟨b, rfl, h1, hb⟩
  · rw [appD_nils (by simpa using hsz) (by omega) (by omega), wS_some]
    refine H _ _ (.inr ⟨h.length, by simp, hH, by simp⟩) ?_ (by simp; omega)
    rw [List.take_append_of_le_length hH]
  · have hbl := blockOf_lt hb
    have hw : cfg.wr b = true := by simp [Cfg.wr]; left; omega
    rw [appD_grow hb hw hsz hlen (by omega) (by simp), wS_some]
    refine H _ _ (.inr ⟨h.length, by simp, hH, ?_⟩) ?_ (by simp; omega)
    · simp only [Nat.mul_one]
      rw [List.take_of_length_le (by simp)]
      simp
      exact isMap_intsA rfl
    · rw [List.take_append_of_le_length (by simp; exact hH), List.take_set_of_le h1]
end
end Go.Ab
