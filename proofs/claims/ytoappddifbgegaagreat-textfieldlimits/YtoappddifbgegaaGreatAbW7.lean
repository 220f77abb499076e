/- Several texts of this proof in one. -/
import Derived.Test.YtoappddifbgegaaGreatAbW3
import Derived.Test.YtoappddifbgegaaGreatPiFacts
import Derived.WalkKit
set_option linter.all false
namespace Go.Ab
@[simp] theorem ev_nilp {fr : List V} : ev fr (.const (.pointer none)) = some .nilp := rfl
@[simp] theorem ev_nilf {fr : List V} : ev fr (.const .nilFunc) = some .nilf := rfl
@[simp] theorem ev_nilm {fr : List V} : ev fr (.const (.map none)) = some .nilm := rfl
theorem set_same {h : Heap} {b : Nat} {cs : List V} (hb : blockOf h b = some cs) : h.set b (some cs) = h := by
  have := live_of_blockOf hb
  apply List.ext_getElem?
  intro i
  by_cases hi : b = i
  · subst hi
    rw [List.getElem?_set_self (blockOf_lt hb), this]
  · rw [List.getElem?_set_ne hi]
section
variable {P : Program} {md : FuncId → Nat} {cfg : Cfg} {n : Nat} {prim : FuncId → Option Prim}
theorem call1x {d : Nat} {f : FuncId} {fn : Func} {c : Code} {k : Nat} {rs : List ResultVar} {args : List V} {h : Heap} {Post : V → Heap → Prop} (hm : md f = 1) (hp : prim f = none) (hf : P.funcs[f]? = some fn) (hb : fn.body = some c) (hk : fn.ntmps = k)
    (hr : fn.results.toList = rs)
    (hw : @wC P md (callN P md prim n d) ⟨cfg.lo, cfg.ex, h.length⟩ n ⟨c⟩ (args ++ List.replicate (k - args.length) .no) h ⟨@kFn P ⟨rs⟩ ⟨fun r' h' => ∃ r, frz h' h.length 6 r' = some r ∧ Post r (h'.take h.length)⟩⟩) :
    ∃ r h2, callM md (callN P md prim n (d + 1)) cfg f args h = some (r, h2) ∧ Post r h2 := by
  obtain ⟨r', h', h1, r, h2, h3⟩ := callN_of hp hf hb hk hr hw
  exact ⟨r, _, by simp only [callM, hm, h1, h2], h3⟩
theorem call2x {d : Nat} {f : FuncId} {fn : Func} {c : Code} {k : Nat} {rs : List ResultVar} {args : List V} {h : Heap} {Post : V → Heap → Prop} (hm : md f = 2) (hp : prim f = none) (hf : P.funcs[f]? = some fn) (hb : fn.body = some c) (hk : fn.ntmps = k)
    (hr : fn.results.toList = rs)
    (hw : @wC P md (callN P md prim n d) cfg n ⟨c⟩ (args ++ List.replicate (k - args.length) .no) h ⟨@kFn P ⟨rs⟩ ⟨Post⟩⟩) :
    ∃ r h2, callM md (callN P md prim n (d + 1)) cfg f args h = some (r, h2) ∧ Post r h2 := by
  obtain ⟨r', h', h1, h2⟩ := callN_of hp hf hb hk hr hw
  exact ⟨r', h', by simp only [callM, hm, h1], h2⟩
end
@[simp] theorem elemsOf_sl {h : Heap} {b off len cap : Nat} : elemsOf h (.sl b off len cap 1) = (blockOf h b).bind fun cs => if off + len ≤ cs.length then some ((cs.drop off).take len) else none := by
  simp only [elemsOf]; cases blockOf h b with
  | none => rfl
  | some cs => simp
theorem mapM_frz_take {h : Heap} {n d : Nat} {k : IntKind} (l : List Int) (off len : Nat) : (((l.map (V.int k)).drop off).take len).mapM (frz h n (d + 1)) = some (((l.drop off).take len).map (V.int k)) := by
  rw [← List.map_drop, ← List.map_take]
  exact mapM_frz_ints _
theorem frz_part {h : Heap} {n d b off len cap : Nat} {k : IntKind} {l : List Int} (hb : blockOf h b = some (l.map (V.int k))) (hn : n ≤ b) (hl : off + len ≤ l.length) : frz h n (d + 2) (.sl b off len cap 1) = some (.lst (((l.drop off).take len).map fun x => [.int k x])) := by
  have e : ¬ b < n := by omega
  have hlen : ((l.drop off).take len).length = len := by simp; omega
  have e3 : chunk 1 len (((l.drop off).take len).map (V.int k)) = ((l.drop off).take len).map fun x => [V.int k x] := by
    have := chunk_one (((l.drop off).take len).map (V.int k))
    simp only [List.length_map, hlen, List.map_map] at this
    exact this
  have e4 : (((l.drop off).take len).map (V.int k)).all V.rf = true := by
    rw [List.all_eq_true]
    intro c hc
    obtain ⟨x, _, rfl⟩ := List.mem_map.1 hc
    rfl
  rw [frz_sl]
  simp only [e, if_false, hb, Nat.mul_one, mapM_frz_take, e3, e4, if_true]
  rw [if_pos (by simpa using hl)]
theorem frzA_part {h : Heap} {b off len cap : Nat} {k : IntKind} {l : List Int} (hb : blockOf h b = some (l.map (V.int k))) (hl : off + len ≤ l.length) : frzA h (.sl b off len cap 1) = some (.lst (((l.drop off).take len).map fun x => [.int k x])) := by
  unfold frzA
  rw [frz_part (d := 4) hb (Nat.zero_le _) hl]
  rfl
def OwnL (h : Heap) (lo : Nat) (k : IntKind) (v : V) (l : List Int) : Prop := (v = .nils ∧ l = []) ∨ (∃ b, v = .sl b 0 l.length l.length 1 ∧ lo ≤ b ∧ blockOf h b = some (l.map (V.int k)))
theorem OwnL.frzA {h : Heap} {lo : Nat} {k : IntKind} {v : V} {l : List Int} (ho : OwnL h lo k v l) : frzA h v = some (.lst (l.map fun x => [.int k x])) := by
  rcases ho with ⟨rfl, rfl⟩ | ⟨b, rfl, _, hb⟩
  · rfl
  · rw [frzA_part hb (by omega)]
    simp
theorem OwnL.len {P : Program} {t e : TypeId} {h : Heap} {lo : Nat} {k : IntKind} {v : V} {l : List Int} (hu : P.underlying t = some (.slice e)) (ho : OwnL h lo k v l) : lenV P t v = some (.int .i64 l.length) := by
  rcases ho with ⟨rfl, rfl⟩ | ⟨b, rfl, _, hb⟩
  · exact lenN_eq hu
  · exact lenS_eq hu
theorem OwnL.mono {h h' : Heap} {lo : Nat} {k : IntKind} {v : V} {l : List Int} (ho : OwnL h lo k v l) (hh : ∀ b, lo ≤ b → b < h.length → blockOf h' b = blockOf h b) : OwnL h' lo k v l := by
  rcases ho with ⟨rfl, rfl⟩ | ⟨b, rfl, h1, hb⟩
  · exact .inl ⟨rfl, rfl⟩
  · exact .inr ⟨b, rfl, h1, by rw [hh b h1 (blockOf_lt hb)]; exact hb⟩
section
variable {P : Program} {md : FuncId → Nat} {call : Callf} {cfg : Cfg} {n : Nat}
theorem wS_app {dst : Option Tmp} {fr : List V} {ops : Array Oper} {rest : List Oper} {Q : KontO} {h : Heap} {d : V} {l : List Int} {lo y : Nat} {k : IntKind} {x : Int} (ho : OwnL h lo k d l) (hlo : cfg.lo ≤ lo) (hH : lo ≤ h.length)
    (hsz : (l.length + 1) * y ≤ 1099511627776) (hlen : l.length + 1 ≤ 1099511627776)
    (H : ∀ d' h', OwnL h' lo k d' (l ++ [x]) → h'.take lo = h.take lo → lo ≤ h'.length → @wO P md call cfg ⟨ops⟩ ⟨rest⟩ (put fr dst d') h' ⟨Q⟩) :
    @wS P md call cfg ⟨dst⟩ ⟨fr⟩ (appD cfg h 1 y d 1 [.int k x]) ⟨ops⟩ ⟨rest⟩ ⟨Q⟩ := by
  rcases ho with ⟨rfl, rfl⟩ | ⟨b, rfl, h1, hb⟩
  · rw [appD_nils (by simpa using hsz) (by omega) (by omega), wS_some]
    refine H _ _ (.inr ⟨h.length, by simp, hH, by simp⟩) ?_ (by simp; omega)
    rw [List.take_append_of_le_length hH]
  · have hbl := blockOf_lt hb
    have hw : cfg.wr b = true := by simp [Cfg.wr]; left; omega
    rw [appD_grow hb hw hsz hlen (by omega) (by simp), wS_some]
    refine H _ _ (.inr ⟨h.length, by simp, hH, ?_⟩) ?_ (by simp; omega)
    · simp only [Nat.mul_one]
      rw [List.take_of_length_le (by simp)]
      simp
      exact isMap_intsA rfl
    · rw [List.take_append_of_le_length (by simp; exact hH), List.take_set_of_le h1]
end
end Go.Ab
namespace Go.Ab
def blkOf : V → Option Nat
  | .sl b _ _ _ _ => some b
  | _ => none
def Dj (v d : V) : Prop := ∀ b, blkOf v = some b → blkOf d ≠ some b
theorem Dj.nils {v : V} : Dj v .nils := fun _ _ h => by cases h
theorem Dj.symm {v d : V} (h : Dj v d) : Dj d v := fun b h1 h2 => h b h2 h1
section
variable {P : Program} {md : FuncId → Nat} {call : Callf} {cfg : Cfg} {n : Nat}
theorem wS_app2 {dst : Option Tmp} {fr : List V} {ops : Array Oper} {rest : List Oper} {Q : KontO} {h : Heap} {d : V} {l : List Int} {lo y : Nat} {k : IntKind} {x : Int} (ho : OwnL h lo k d l) (hlo : cfg.lo ≤ lo) (hH : lo ≤ h.length)
    (hsz : (l.length + 1) * y ≤ 1099511627776) (hlen : l.length + 1 ≤ 1099511627776)
    (H : ∀ d' h', OwnL h' lo k d' (l ++ [x]) → h'.take lo = h.take lo → lo ≤ h'.length → h.length ≤ h'.length → (∀ v, Dj v d → (∀ b, blkOf v = some b → b < h.length) → Dj v d' ∧ ∀ b, blkOf v = some b → blockOf h' b = blockOf h b) → @wO P md call cfg ⟨ops⟩ ⟨rest⟩ (put fr dst d') h' ⟨Q⟩) :
    @wS P md call cfg ⟨dst⟩ ⟨fr⟩ (appD cfg h 1 y d 1 [.int k x]) ⟨ops⟩ ⟨rest⟩ ⟨Q⟩ := by
  rcases ho with ⟨rfl, rfl⟩ | ⟨b, rfl, h1, hb⟩
  · rw [appD_nils (by simpa using hsz) (by omega) (by omega), wS_some]
    refine H _ _ (.inr ⟨h.length, by simp, hH, by simp⟩) ?_ (by simp; omega) (by simp) ?_
    · rw [List.take_append_of_le_length hH]
    · intro v _ hv
      refine ⟨fun c hc h2 => ?_, fun c hc => blockOf_left (hv c hc)⟩
      simp only [blkOf, Option.some.injEq] at h2
      have := hv c hc
      omega
  · have hbl := blockOf_lt hb
    have hw : cfg.wr b = true := by simp [Cfg.wr]; left; omega
    rw [appD_grow hb hw hsz hlen (by omega) (by simp), wS_some]
    refine H _ _ (.inr ⟨h.length, by simp, hH, ?_⟩) ?_ (by simp; omega) (by simp) ?_
    · simp only [Nat.mul_one]
      rw [List.take_of_length_le (by simp)]
      simp
      exact isMap_intsA rfl
    · rw [List.take_append_of_le_length (by simp; exact hH), List.take_set_of_le h1]
    · intro v hd hv
      refine ⟨fun c hc h2 => ?_, fun c hc => ?_⟩
      · simp only [blkOf, Option.some.injEq] at h2
        have := hv c hc
        omega
      · have hne : b ≠ c := fun e => hd c hc (by rw [e]; rfl)
        rw [blockOf_left (by simpa using hv c hc), blockOf_set_ne' hne]
end
theorem OwnL.blk {h : Heap} {lo : Nat} {k : IntKind} {v : V} {l : List Int} (ho : OwnL h lo k v l) {b : Nat} (hb : blkOf v = some b) : lo ≤ b ∧ b < h.length := by
  rcases ho with ⟨rfl, rfl⟩ | ⟨c, rfl, h1, hc⟩
  · cases hb
  · cases hb; exact ⟨h1, blockOf_lt hc⟩
theorem OwnL.of_blk {h h' : Heap} {lo : Nat} {k : IntKind} {v : V} {l : List Int} (ho : OwnL h lo k v l) (hh : ∀ b, blkOf v = some b → blockOf h' b = blockOf h b) : OwnL h' lo k v l := by
  rcases ho with ⟨rfl, rfl⟩ | ⟨c, rfl, h1, hc⟩
  · exact .inl ⟨rfl, rfl⟩
  · exact .inr ⟨c, rfl, h1, by rw [hh c rfl]; exact hc⟩
def Upd (h : Heap) (b : Nat) (cs : List V) (H : Heap) : Prop := H.take h.length = h.set b (some cs) ∧ h.length ≤ H.length
theorem Upd.refl {h : Heap} {b : Nat} {cs : List V} (hb : blockOf h b = some cs) : Upd h b cs h := by
  refine ⟨?_, Nat.le_refl _⟩
  rw [List.take_length]
  exact (set_same hb).symm
theorem Upd.block {h H : Heap} {b : Nat} {cs : List V} (hu : Upd h b cs H) (hb : b < h.length) (hm : isMap cs = false) : blockOf H b = some cs := by
  have h1 : H[b]? = (H.take h.length)[b]? := by rw [List.getElem?_take_of_lt hb]
  unfold blockOf
  rw [h1, hu.1, List.getElem?_set_self hb]
  simp [hm]
theorem Upd.set {h H : Heap} {b : Nat} {cs cs' : List V} (hu : Upd h b cs H) : Upd h b cs' (H.set b (some cs')) := by
  refine ⟨?_, by simpa using hu.2⟩
  rw [List.take_set, hu.1]
  simp
theorem Upd.push {h H : Heap} {b : Nat} {cs : List V} (hu : Upd h b cs H) (x : Heap) : Upd h b cs (H ++ x) := by
  refine ⟨?_, by have := hu.2; simp; omega⟩
  rw [List.take_append_of_le_length hu.2, hu.1]
theorem Upd.of_take {h H H' : Heap} {b : Nat} {cs : List V} (hu : Upd h b cs H) (ht : H'.take h.length = H.take h.length) (hl : h.length ≤ H'.length) : Upd h b cs H' := ⟨ht.trans hu.1, hl⟩
end Go.Ab
namespace Go.Ab
def OwnC (h : Heap) (lo k : Nat) (v : V) (cs : List V) : Prop :=
  (v = .nils ∧ cs = []) ∨ ∃ b n, v = .sl b 0 n n k ∧ cs.length = n * k ∧ lo ≤ b ∧ blockOf h b = some cs
abbrev Own := Nat × V × List V
structure Hp (H base : Heap) (os : List Own) : Prop where
  take : H.take base.length = base
  le : base.length ≤ H.length
  own : ∀ o ∈ os, OwnC H base.length o.1 o.2.1 o.2.2
  dj : os.Pairwise fun a b => Dj a.2.1 b.2.1
theorem OwnC.blk {h : Heap} {lo k : Nat} {v : V} {cs : List V} (ho : OwnC h lo k v cs) {b : Nat} (hb : blkOf v = some b) : lo ≤ b ∧ b < h.length := by
  rcases ho with ⟨rfl, rfl⟩ | ⟨c, n, rfl, _, h1, hc⟩
  · cases hb
  · cases hb; exact ⟨h1, blockOf_lt hc⟩
theorem OwnC.of_blk {h h' : Heap} {lo k : Nat} {v : V} {cs : List V} (ho : OwnC h lo k v cs) (hh : ∀ b, blkOf v = some b → blockOf h' b = blockOf h b) : OwnC h' lo k v cs := by
  rcases ho with ⟨rfl, rfl⟩ | ⟨c, n, rfl, hn, h1, hc⟩
  · exact .inl ⟨rfl, rfl⟩
  · exact .inr ⟨c, n, rfl, hn, h1, by rw [hh c rfl]; exact hc⟩
theorem OwnC.lo {h : Heap} {lo lo' k : Nat} {v : V} {cs : List V} (ho : OwnC h lo k v cs) (hl : lo' ≤ lo) : OwnC h lo' k v cs := by
  rcases ho with ⟨rfl, rfl⟩ | ⟨c, n, rfl, hn, h1, hc⟩
  · exact .inl ⟨rfl, rfl⟩
  · exact .inr ⟨c, n, rfl, hn, by omega, hc⟩
theorem OwnC.pos {h : Heap} {lo k : Nat} {v : V} {cs : List V} (ho : OwnC h lo k v cs) (hc : cs ≠ []) : ∃ b n, v = .sl b 0 n n k ∧ cs.length = n * k ∧ lo ≤ b ∧ b < h.length ∧ blockOf h b = some cs := by
  rcases ho with ⟨rfl, rfl⟩ | ⟨c, n, rfl, hn, h1, hb⟩
  · exact absurd rfl hc
  · exact ⟨c, n, rfl, hn, h1, blockOf_lt hb, hb⟩
theorem OwnC.len {P : Program} {t e : TypeId} {h : Heap} {lo k : Nat} {v : V} {cs : List V} (hu : P.underlying t = some (.slice e)) (hk : 0 < k) (ho : OwnC h lo k v cs) : lenV P t v = some (.int .i64 (cs.length / k : Nat)) := by
  rcases ho with ⟨rfl, rfl⟩ | ⟨b, n, rfl, hn, _, hb⟩
  · rw [lenN_eq hu]; simp
  · rw [lenS_eq hu, hn, Nat.mul_div_cancel _ hk]
theorem OwnC.leaf {h : Heap} {lo k : Nat} {v : V} {cs : List V} (ho : OwnC h lo k v cs) : v.leaf = true := by
  rcases ho with ⟨rfl, _⟩ | ⟨b, n, rfl, _⟩ <;> rfl
theorem OwnC.cells {h : Heap} {lo k : Nat} {v : V} {cs : List V} (ho : OwnC h lo k v cs) : cellsOf v = some [v] := by
  rcases ho with ⟨rfl, _⟩ | ⟨b, n, rfl, _⟩ <;> rfl
theorem OwnC.len1 {P : Program} {t e : TypeId} {h : Heap} {lo : Nat} {v : V} {cs : List V} (hu : P.underlying t = some (.slice e)) (ho : OwnC h lo 1 v cs) : lenV P t v = some (.int .i64 cs.length) := by
  rw [ho.len hu (by omega), Nat.div_one]
theorem mapM_frz_rf {h : Heap} {n d : Nat} : ∀ {cs : List V}, cs.all V.rf = true → (∀ c ∈ cs, c ≠ .nils) → cs.mapM (frz h n (d + 1)) = some cs
  | [], _, _ => rfl
  | c :: cs, hr, hn => by
    simp only [List.all_cons, Bool.and_eq_true] at hr
    have ih := mapM_frz_rf (h := h) (n := n) (d := d) hr.2 (fun x hx => hn x (List.mem_cons_of_mem _ hx))
    have h0 : frz h n (d + 1) c = some c := by
      have := hr.1
      have hc := hn c (List.mem_cons_self ..)
      cases c <;> first | rfl | (exact absurd rfl hc) | (simp [V.rf] at this; done)
    simp [List.mapM_cons, h0, ih]
theorem OwnC.frz {h : Heap} {lo n d k : Nat} {v : V} {cs : List V} (ho : OwnC h lo k v cs) (hn : n ≤ lo) (hr : cs.all V.rf = true) (hnn : ∀ c ∈ cs, c ≠ .nils) (hk : 0 < k) : frz h n (d + 2) v = some (.lst (chunk k (cs.length / k) cs)) := by
  rcases ho with ⟨rfl, rfl⟩ | ⟨b, m, rfl, hm, h1, hb⟩
  · simp [chunk]
  · rw [frz_sl, if_neg (by omega), hb]
    have e : List.take (m * k) cs = cs := by rw [← hm, List.take_length]
    simp only [Nat.zero_add, List.drop_zero, hm, Nat.le_refl, if_true, e, mapM_frz_rf hr hnn, hr, Nat.mul_div_cancel _ hk]
theorem OwnC.frzI {h : Heap} {lo n d : Nat} {v : V} {kd : IntKind} {l : List Int} (ho : OwnC h lo 1 v (l.map (V.int kd))) (hn : n ≤ lo) : Go.Ab.frz h n (d + 2) v = some (.lst (l.map fun x => [.int kd x])) := by
  rw [ho.frz hn (by simp) (by simp) (by omega)]
  simp only [Nat.div_one, chunk_one, List.map_map]
  rfl
theorem OwnC.frzA {h : Heap} {lo : Nat} {v : V} {kd : IntKind} {l : List Int} (ho : OwnC h lo 1 v (l.map (V.int kd))) : Go.Ab.frzA h v = some (.lst (l.map fun x => [.int kd x])) := by
  unfold Go.Ab.frzA
  rw [ho.frzI (d := 4) (Nat.zero_le _)]
  rfl
theorem OwnC.own {h : Heap} {lo d k : Nat} {v : V} {cs : List V} (ho : OwnC h lo k v cs) (hr : ∀ c ∈ cs, Go.Ab.own h (d + 1) c = true) : Go.Ab.own h (d + 2) v = true := by
  rcases ho with ⟨rfl, rfl⟩ | ⟨b, n, rfl, hn, h1, hb⟩
  · rfl
  · show (match blockOf h b with
      | some cs => ((cs.drop 0).take (n * k)).all (Go.Ab.own h (d + 1))
      | none => false) = true
    rw [hb]
    simp only [List.drop_zero, List.all_eq_true]
    exact fun c hc => hr c (List.mem_of_mem_take hc)
@[simp] theorem own_agg {h : Heap} {d : Nat} {cs : List V} : Go.Ab.own h (d + 1) (.agg cs) = cs.all (Go.Ab.own h d) := rfl
@[simp] theorem own_tup {h : Heap} {d : Nat} {cs : List V} : Go.Ab.own h (d + 1) (.tup cs) = cs.all (Go.Ab.own h d) := rfl
@[simp] theorem own_int {h : Heap} {d : Nat} {k : IntKind} {n : Int} : Go.Ab.own h (d + 1) (.int k n) = true := rfl
@[simp] theorem own_bool {h : Heap} {d : Nat} {b : Bool} : Go.Ab.own h (d + 1) (.bool b) = true := rfl
@[simp] theorem own_str {h : Heap} {d : Nat} {b : ByteArray} : Go.Ab.own h (d + 1) (.str b) = true := rfl
@[simp] theorem own_nils {h : Heap} {d : Nat} : Go.Ab.own h (d + 1) .nils = true := rfl
@[simp] theorem own_lst0 {h : Heap} {d : Nat} : Go.Ab.own h (d + 1) (.lst []) = true := rfl
theorem Hp.start {H : Heap} : Hp H H [] := ⟨List.take_length, Nat.le_refl _, by simp, List.Pairwise.nil⟩
theorem Hp.cut {H base : Heap} {os : List Own} {n : Nat} (h : Hp H base os) (hn : n ≤ base.length) : Hp H (base.take n) os := by
  have hl : (base.take n).length = n := by simp; omega
  refine ⟨?_, by rw [hl]; have := h.le; omega, fun o ho => ?_, h.dj⟩
  · rw [hl]
    conv => rhs; rw [← h.take]
    rw [List.take_take, Nat.min_eq_left hn]
  · rw [hl]; exact (h.own o ho).lo hn
theorem Hp.block {H base : Heap} {os : List Own} {b : Nat} (h : Hp H base os) (hb : b < base.length) : blockOf H b = blockOf base b := by
  have : H[b]? = base[b]? := by
    conv => rhs; rw [← h.take]
    rw [List.getElem?_take_of_lt hb]
  simp [blockOf, this]
theorem Hp.push {H base : Heap} {os : List Own} (h : Hp H base os) (x : Heap) : Hp (H ++ x) base os := by
  refine ⟨?_, by have := h.le; simp; omega, fun o ho => (h.own o ho).of_blk fun b hb => blockOf_left ((h.own o ho).blk hb).2, h.dj⟩
  rw [List.take_append_of_le_length h.le, h.take]
theorem Hp.set {H base : Heap} {os : List Own} {b : Nat} (h : Hp H base os) (hb : b < base.length) (x : Option (List V)) : Hp (H.set b x) (base.set b x) os := by
  refine ⟨?_, by simpa using h.le, fun o ho => ?_, h.dj⟩
  · rw [List.length_set, List.take_set, h.take]
  · rw [List.length_set]
    exact (h.own o ho).of_blk fun c hc => blockOf_set_ne' (by have := ((h.own o ho).blk hc).1; omega)
theorem Hp.new {H base : Heap} {os : List Own} {n k : Nat} {cs : List V} (h : Hp H base os) (hm : isMap cs = false) (hn : cs.length = n * k) (x : Heap) : Hp (H ++ some cs :: x) base ((k, .sl H.length 0 n n k, cs) :: os) := by
  have hp := h.push (some cs :: x)
  refine ⟨hp.take, hp.le, fun o ho => ?_, List.pairwise_cons.2 ⟨fun o ho => ?_, h.dj⟩⟩
  · rcases List.mem_cons.1 ho with rfl | ho
    · exact .inr ⟨_, n, rfl, hn, h.le, by simp [hm]⟩
    · exact hp.own o ho
  · intro b hb hb2
    cases hb
    have := ((h.own o ho).blk hb2).2
    omega
theorem Hp.nil {H base : Heap} {os : List Own} (h : Hp H base os) (k : Nat) : Hp H base ((k, .nils, []) :: os) := by
  refine ⟨h.take, h.le, fun o ho => ?_, List.pairwise_cons.2 ⟨fun o _ b hb => by simp [blkOf] at hb, h.dj⟩⟩
  rcases List.mem_cons.1 ho with rfl | ho
  · exact .inl ⟨rfl, rfl⟩
  · exact h.own o ho
theorem Hp.drop {H base : Heap} {os os' : List Own} (h : Hp H base os) (hs : os'.Sublist os) : Hp H base os' :=
  ⟨h.take, h.le, fun o ho => h.own o (hs.subset ho), h.dj.sublist hs⟩
theorem Hp.tail {H base : Heap} {a : Own} {os : List Own} (h : Hp H base (a :: os)) : Hp H base os := h.drop (List.sublist_cons_self ..)
theorem Hp.head {H base : Heap} {k : Nat} {v : V} {cs : List V} {os : List Own} (h : Hp H base ((k, v, cs) :: os)) : OwnC H base.length k v cs := h.own (k, v, cs) (List.mem_cons_self ..)
theorem Hp.snd {H base : Heap} {a : Own} {k : Nat} {v : V} {cs : List V} {os : List Own} (h : Hp H base (a :: (k, v, cs) :: os)) : OwnC H base.length k v cs := h.tail.head
theorem isMap_append {a b : List V} (ha : isMap a = false) (hb : isMap b = false) : isMap (a ++ b) = false := by
  cases a with
  | nil => exact hb
  | cons x a => cases x <;> first | rfl | simp [isMap] at ha
theorem isMap_of_block {h : Heap} {b : Nat} {cs : List V} (hb : blockOf h b = some cs) : isMap cs = false := by
  unfold blockOf at hb
  split at hb
  · rename_i x _
    split at hb
    · cases hb
    · rename_i hx
      cases hb
      simpa using hx
  · cases hb
def Mid [I : Hid (List V → Heap → Prop)] (fr : List V) (h : Heap) : Prop := I.val fr h
def kMid [I : Hid (List V → Heap → Prop)] (e : Ex) (fr : List V) (h : Heap) : Prop :=
  match e with
  | .normal => @Mid I fr h
  | _ => False
@[simp] theorem kMid_normal {I : List V → Heap → Prop} {fr : List V} {h : Heap} : @kMid ⟨I⟩ .normal fr h ↔ @Mid ⟨I⟩ fr h := Iff.rfl
section
variable {P : Program} {md : FuncId → Nat} {call : Callf} {cfg : Cfg} {n : Nat}
theorem wS_appO {dst : Option Tmp} {fr : List V} {ops : Array Oper} {rest : List Oper} {Q : KontO} {h base : Heap} {os : List Own} {d : V} {cs new : List V} {k m y : Nat} (ho : Hp h base ((k, d, cs) :: os)) (hlo : cfg.lo ≤ base.length)
    (hnew : new.length = m * k) (hmn : isMap new = false) (hm : 0 < m) (hk : 0 < k) (hsz : (cs.length / k + m) * y ≤ 1099511627776) (hlen : cs.length / k + m ≤ 1099511627776)
    (H : ∀ d' h', Hp h' base ((k, d', cs ++ new) :: os) → @wO P md call cfg ⟨ops⟩ ⟨rest⟩ (put fr dst d') h' ⟨Q⟩) :
    @wS P md call cfg ⟨dst⟩ ⟨fr⟩ (appD cfg h k y d m new) ⟨ops⟩ ⟨rest⟩ ⟨Q⟩ := by
  have hd := List.pairwise_cons.1 ho.dj
  rcases ho.head with ⟨hh, hcs⟩ | ⟨b, n, hv, hn, h1, hb⟩
  · subst hh hcs
    simp only [List.length_nil, Nat.zero_div, Nat.zero_add] at hsz hlen
    rw [appD_nils hsz hlen hm, wS_some]
    exact H _ _ (by simpa using ho.tail.new hmn hnew [])
  · subst hv
    rw [hn, Nat.mul_div_cancel _ hk] at hsz hlen
    have hbl := blockOf_lt hb
    have hw : cfg.wr b = true := by simp only [Cfg.wr, Bool.or_eq_true, decide_eq_true_eq]; left; omega
    rw [appD_grow hb hw hsz hlen (by omega) (by omega), wS_some, ← hn, List.take_length]
    refine H _ _ ?_
    have hp0 : Hp (h.set b none) base os := by
      refine ⟨?_, by simpa using ho.le, fun o hoo => ?_, hd.2⟩
      · rw [List.take_set_of_le h1, ho.take]
      · refine (ho.own o (List.mem_cons_of_mem _ hoo)).of_blk fun c hc => blockOf_set_ne' ?_
        intro e
        subst e
        exact hd.1 o hoo b rfl hc
    have := hp0.new (cs := cs ++ new) (n := n + m) (k := k) (isMap_append (isMap_of_block hb) hmn) (by simp [hn, hnew, Nat.add_mul]) []
    simpa using this
end
end Go.Ab
namespace Go.Ab.Bi
def rr (p : Int → Bool) : List Int → List Int → List Int
  | acc, [] => acc
  | acc, x :: l => if p x then rr p (x :: acc) l else acc ++ x :: rr p [] l
def Swp (l : List Int) (i to k : Nat) (l' : List Int) : Prop := l'.length = l.length ∧ ∀ q, l'[q]? = if i ≤ q ∧ q < to ∧ (q < i + k ∨ to ≤ q + k) then l[i + to - 1 - q]? else l[q]?
theorem Swp.zero {l : List Int} {i to : Nat} : Swp l i to 0 l := ⟨rfl, fun q => by rw [if_neg (by omega)]⟩
theorem Swp.at {l l' : List Int} {i to k q : Nat} (h : Swp l i to k l') (h1 : i + k ≤ q) (h2 : q + k < to) : l'[q]? = l[q]? := by
  rw [h.2, if_neg (by omega)]
theorem Swp.step {l l' : List Int} {i to k : Nat} {x y : Int} (h : Swp l i to k l') (hk : i + k + k + 1 < to) (ht : to ≤ l.length) (hx : l[i + k]? = some x) (hy : l[to - 1 - k]? = some y) :
    Swp l i to (k + 1) ((l'.set (i + k) y).set (to - 1 - k) x) := by
  refine ⟨by simp [h.1], fun q => ?_⟩
  rw [List.getElem?_set, List.getElem?_set, h.2]
  have hl := h.1
  by_cases e1 : to - 1 - k = q
  · subst e1
    rw [if_pos rfl, if_pos (by simp; omega), if_pos (by omega), show i + to - 1 - (to - 1 - k) = i + k by omega, hx]
  · rw [if_neg e1]
    by_cases e2 : i + k = q
    · subst e2
      rw [if_pos rfl, if_pos (by omega), if_pos (by omega), show i + to - 1 - (i + k) = to - 1 - k by omega, hy]
    · rw [if_neg e2]
      by_cases e3 : i ≤ q ∧ q < to ∧ (q < i + k ∨ to ≤ q + k)
      · rw [if_pos e3, if_pos (by omega)]
      · rw [if_neg e3, if_neg (by omega)]
theorem Swp.fin {a run b l' : List Int} {k : Nat} (h : Swp (a ++ run ++ b) a.length (a.length + run.length) k l') (hk : run.length ≤ k + k + 1) : l' = a ++ run.reverse ++ b := by
  apply List.ext_getElem?
  intro q
  rw [h.2]
  by_cases h1 : q < a.length
  · rw [if_neg (by omega)]
    simp [List.getElem?_append_left, h1]
  · by_cases h2 : q < a.length + run.length
    · have e : (a ++ run.reverse ++ b)[q]? = run.reverse[q - a.length]? := by
        rw [List.append_assoc, List.getElem?_append_right (by omega), List.getElem?_append_left (by simp; omega)]
      have e' : ∀ p, a.length ≤ p → p < a.length + run.length → (a ++ run ++ b)[p]? = run[p - a.length]? := fun p p1 p2 => by
        rw [List.append_assoc, List.getElem?_append_right (by omega), List.getElem?_append_left (by omega)]
      rw [e, List.getElem?_reverse (by omega)]
      split
      · rw [e' _ (by omega) (by omega)]
        congr 1
        omega
      · rw [e' _ (by omega) (by omega)]
        congr 1
        omega
    · rw [if_neg (by omega)]
      rw [List.getElem?_append_right (by simp; omega), List.getElem?_append_right (by simp; omega)]
      simp
end Go.Ab.Bi
namespace Go.Ab.Bi
def ini (x : Int) : Bool := x == 19 || x == 20 || x == 21
def mscan : List Int → Nat → Option Nat
  | [], _ => none
  | x :: r, d =>
    if ini x then (mscan r (d + 1)).map (· + 1)
    else if x = 22 then match d with
      | 0 => some 0
      | d + 1 => (mscan r d).map (· + 1)
    else (mscan r d).map (· + 1)
def fsL : Nat → List Int → Int
  | 0, _ => 0
  | _ + 1, [] => 0
  | n + 1, x :: r =>
    if x = 0 then 0 else if x = 1 ∨ x = 2 then 1
    else if ini x then match mscan r 0 with
      | some m => fsL n (r.drop (m + 1))
      | none => 0
    else fsL n r
def fs (l : List Int) : Int := fsL l.length l
def mt (c : List Int) (i : Nat) : Int := match mscan (c.drop (i + 1)) 0 with
  | some m => ((i + 1 + m : Nat) : Int)
  | none => -1
abbrev Ent := Int × Int × Bool
structure ES where
  st : List Ent
  iso : Nat
  emb : Nat
  val : Nat
def nxt (n : Int) (odd : Bool) : Int := if (n % 2 == 0) == odd then n + 1 else n + 2
def ovr (o x : Int) : Int := if 0 ≤ o then o else x
def topE : List Ent → Ent
  | [] => (0, -1, false)
  | a :: _ => a
def popI : List Ent → List Ent
  | [] => []
  | a :: r => if a.2.2 then r else popI r
def ovOf (x : Int) : Int := if x = 17 then 1 else if x = 15 then 0 else -1
def exStep (e x : Int) (odd : Bool) (s : ES) : Int × Int × ES :=
  if x = 16 ∨ x = 14 ∨ x = 17 ∨ x = 15 then
    (((topE s.st).1, x, if nxt (topE s.st).1 (decide (x = 16 ∨ x = 17)) ≤ 125 ∧ s.iso = 0 ∧ s.emb = 0 then { s with st := (nxt (topE s.st).1 (decide (x = 16 ∨ x = 17)), ovOf x, false) :: s.st }
      else if s.iso = 0 then { s with emb := s.emb + 1 } else s))
  else if ini x then
    ((topE s.st).1, ovr (topE s.st).2.1 x, if nxt (topE s.st).1 odd ≤ 125 ∧ s.iso = 0 ∧ s.emb = 0 then { s with st := (nxt (topE s.st).1 odd, -1, true) :: s.st, val := s.val + 1 } else { s with iso := s.iso + 1 })
  else if x = 22 then
    let s' : ES := if 0 < s.iso then { s with iso := s.iso - 1 } else if 0 < s.val then { s with st := popI s.st, emb := 0, val := s.val - 1 } else s
    ((topE s'.st).1, ovr (topE s'.st).2.1 x, s')
  else if x = 18 then
    ((topE s.st).1, x, if 0 < s.iso then s else if 0 < s.emb then { s with emb := s.emb - 1 } else if (topE s.st).2.2 = false ∧ 1 < s.st.length then { s with st := s.st.tail } else s)
  else if x = 10 then (e, x, s)
  else if x = 9 then ((topE s.st).1, x, s)
  else ((topE s.st).1, ovr (topE s.st).2.1 x, s)
def oddI (x : Int) (r : List Int) : Bool :=
  if x = 20 then true
  else if x = 21 then decide (fs (match mscan r 0 with
    | some m => r.take m
    | none => r) = 1)
  else false
def exGo (e : Int) : List Int → ES → List (Int × Int)
  | [], _ => []
  | x :: r, s => ((exStep e x (oddI x r) s).1, (exStep e x (oddI x r) s).2.1) :: exGo e r (exStep e x (oddI x r) s).2.2
def es0 (e : Int) : ES := ⟨[(e, -1, false)], 0, 0, 0⟩
def expl (e : Int) (c : List Int) : List (Int × Int) := exGo e c (es0 e)
end Go.Ab.Bi
namespace Go.Ab
open Go.Proofs
namespace Bi
def md : FuncId → Nat
| 14 => 2
| 279 => 2
| 16 => 1
| 48 => 1
| 80 => 1
| 120 => 1
| 121 => 1
| 280 => 1
| 282 => 1
| 283 => 1
| 284 => 1
| 285 => 1
| 305 => 1
| 289 => 1
| 324 => 1
| 331 => 1
| 335 => 1
| 336 => 1
| 337 => 1
| 339 => 1
| 340 => 1
| 341 => 1
| 342 => 1
| 345 => 1
| 347 => 1
| 348 => 1
| 349 => 1
| 350 => 1
| 236 => 3
| 238 => 3
| 235 => 3
| 237 => 2
| 183 => 3
| 297 => 3
| 239 => 4
| 261 => 2
| 262 => 1
| 290 => 4
| 318 => 4
| 293 => 5
| 292 => 5
| 294 => 2
| 173 => 5
| 171 => 4
| 107 => 4
| 172 => 4
| 108 => 4
| 106 => 2
| 168 => 2
| 275 => 1
| 319 => 2
| 320 => 2
| 329 => 2
| 180 => 3
| 61 => 2
| 57 => 3
| 76 => 2
| 197 => 2
| 191 => 2
| 123 => 2
| 51 => 2
| 54 => 2
| 55 => 2
| 87 => 2
| 88 => 2
| 89 => 2
| 90 => 2
| 91 => 2
| 92 => 2
| 93 => 2
| 94 => 2
| 95 => 2
| 96 => 2
| 97 => 2
| 98 => 2
| 99 => 2
| 100 => 2
| 101 => 2
| 102 => 2
| 103 => 2
| 126 => 2
| 135 => 2
| 141 => 2
| 145 => 2
| 150 => 2
| 153 => 2
  | _ => 0
def isSp2 (f : FuncId) : Bool := f == 13 || f == 99999 || f == 99999 || f == 99999 || f == 324
def isSp5 (f : FuncId) : Bool := isSp2 f || f == 236 || f == 237 || f == 279 || f == 99999 || f == 329 || f == 61
abbrev Np5 (f : FuncId) : Prop := isSp5 f = false
noncomputable abbrev K (prim : FuncId → Option Prim) (d : Nat) : Callf := callN Tryz.prog md prim 10000 d
abbrev il (l : List Int) : V := .lst (l.map fun n => [.int .i64 n])
abbrev rl (l : List Int) : V := .lst (l.map fun n => [.int .i32 n])
@[simp] theorem frzA_lst {h : Heap} {xs : List (List V)} : frzA h (.lst xs) = some (.lst xs) := rfl
@[simp] theorem frzA_int {h : Heap} {k : IntKind} {i : Int} : frzA h (.int k i) = some (.int k i) := rfl
@[simp] theorem frzA_bool {h : Heap} {b : Bool} : frzA h (.bool b) = some (.bool b) := rfl
@[simp] theorem frzA_agg {h : Heap} {cs : List V} : frzA h (.agg cs) = (cs.mapM (frz h 0 5)).map .agg := by
  unfold frzA; rw [frz_agg]; cases cs.mapM (frz h 0 5) <;> rfl
@[simp] theorem frzA_nils {h : Heap} : frzA h .nils = some (.lst []) := rfl
@[simp] theorem appD_nil0 {cfg : Cfg} {h : Heap} {k y : Nat} : appD cfg h k y .nils 0 [] = some (.nils, h) := by simp [appD, roomy]
@[simp] theorem flat_ints {k : IntKind} {l : List Int} : (l.map fun n => [V.int k n]).flatten = l.map (V.int k) := by
  induction l with
  | nil => rfl
  | cons x l ih => simp [ih]
section
variable {prim : FuncId → Option Prim} (d : Nat) (cfg : Cfg) (h : Heap)
end
end Bi
end Go.Ab
namespace Go.Ab
open Go.RowKit
def IsRow (k : IntKind) (w : World) (a : Option Addr) (len cap : Nat) (zs : List Int) : Prop :=
  (a = none ∧ len = 0 ∧ cap = 0 ∧ zs = []) ∨
  ∃ x, a = some x ∧ len ≤ cap ∧ cap ≤ maxLen ∧ zs.length = cap ∧ (∀ i, i < zs.length → w.cell? (x.add i) = some (.int k (zs.getD i 0))) ∧ ∀ n ∈ zs, (Lit.int k n).wf = true
theorem cell_lt {w : World} {b o : Nat} {v : Value} (h : w.cell? ⟨b, o, none⟩ = some v) : b < w.heap.size := by
  rcases Nat.lt_or_ge b w.heap.size with hb | hb
  · exact hb
  · simp [World.cell?, Array.getElem?_eq_none hb] at h
theorem isRow_R {k : IntKind} {w : World} {a : Option Addr} {len cap : Nat} {zs : List Int} (h : IsRow k w a len cap zs) : R noMu [] w (.lst ((zs.take len).map fun n => [.int k n])) (.slice a len cap) := by
  rcases h with ⟨rfl, rfl, rfl, rfl⟩ | ⟨x, rfl, hl, hm, hz, hcell, _⟩
  · exact .lst0 _ _ (fun _ => rfl)
  · by_cases h0 : len = 0
    · subst h0; exact .lst0 _ _ (fun h => by cases h)
    · obtain ⟨b, off, spot⟩ := x
      have hc0 := hcell 0 (by omega)
      have hspot : spot = none := by simpa [Addr.add] using World.cell?_spot hc0
      subst hspot
      have hc : ∀ i, i < cap → w.cell? ⟨b, off + i, none⟩ = some (.int k (zs.getD i 0)) := fun i hi => by
        have := hcell i (by omega)
        by_cases h0 : i = 0
        · subst h0; simpa [Addr.add] using this
        · simpa [Addr.add, h0] using this
      have hlt : b < w.heap.size := cell_lt (hc 0 (by omega))
      have hlen : ((zs.take len).map fun n => [V.int k n]).length = len := by simp; omega
      have key : ∀ (i : Nat) (e : List V), ((zs.take len).map fun n => [V.int k n])[i]? = some e → i < len ∧ e = [.int k (zs.getD i 0)] := by
        intro i e he
        have hi : i < len := by
          have := (List.getElem?_eq_some_iff.1 he).1
          omega
        refine ⟨hi, ?_⟩
        rw [List.getElem?_map, List.getElem?_take_of_lt hi, List.getElem?_eq_getElem (by omega : i < zs.length)] at he
        simp only [Option.map_some, Option.some.injEq] at he
        rw [← he, List.getD_eq_getElem?_getD, List.getElem?_eq_getElem (by omega : i < zs.length)]
        rfl
      have := R.lst (m := noMu) (h := []) (w := w) (xs := (zs.take len).map fun n => [V.int k n]) (b := b) (o := off) (k := 1) (rc := cap) (fun i _ => .int k (zs.getD i 0)) ⟨hlt, fun h => h, fun x hx => by obtain ⟨cs, hc⟩ := hx; simp at hc⟩ (by rw [hlen]; exact hl)
        (fun i e he => by rw [(key i e he).2]; rfl)
        (fun i e j c he hj => by
          obtain ⟨hi, rfl⟩ := key i e he
          match j, hj with
          | 0, _ => simpa using hc i (by omega)
          | j + 1, hj => simp at hj)
        (fun i e j c he hj => by
          obtain ⟨hi, rfl⟩ := key i e he
          match j, hj with
          | 0, hj => simp at hj; subst hj; rfl
          | j + 1, hj => simp at hj)
        (fun i e j c he hj => by
          obtain ⟨hi, rfl⟩ := key i e he
          match j, hj with
          | 0, hj => simp at hj; subst hj; exact .int _ _
          | j + 1, hj => simp at hj)
      rwa [hlen] at this
theorem pw_nil {m : Mu} {h : Heap} {w : World} : PW m h w [] #[] := ⟨rfl, by simp⟩
theorem pw_cons {m : Mu} {h : Heap} {w : World} {x : V} {v : Value} {xs : List V} {vs : List Value} (hr : R m h w x v) (ht : PW m h w xs vs.toArray) : PW m h w (x :: xs) (v :: vs).toArray := by
  refine ⟨by have := ht.1; simp at this ⊢; omega, fun i c u hc hu => ?_⟩
  cases i with
  | zero => simp at hc hu; subst hc hu; exact hr
  | succ i => exact ht.2 i c u (by simpa using hc) (by simpa using hu)
theorem agg_R {m : Mu} {h : Heap} {w : World} {cs : List V} {vs : List Value} (hp : PW m h w cs vs.toArray) : R m h w (.agg cs) (.agg vs.toArray) := .agg hp.1 hp.2
end Go.Ab
namespace Go.Ab
open Go.Proofs
namespace Bi
abbrev Row := Int × Int × Int × Int × Int × Int × Int
def tab1 : List Row := [(0, 8, 3, 0, 7, 9, 0), (9, 9, 3, 0, 10, 11, 0), (10, 10, 2, 1, 3, 10, 0), (11, 11, 3, 1, 1, 11, 0), (12, 12, 3, 1, 1, 12, 0), (13, 13, 1, 1, 2, 10, 0), (14, 31, 3, 0, 7, 9, 0), (32, 32, 0, 2, 4, 12, 0), (33, 33, 0, 0, 15, 13, 0), (34, 34, 0, 0, 14, 13, 0), (35, 37, 0, 0, 0, 5, 0), (38, 38, 0, 0, 0, 13, 0), (39, 39, 0, 7, 14, 13, 0), (40, 40, 0, 0, 12, 13, 0), (41, 41, 0, 0, 13, 13, 0), (42, 42, 0, 0, 0, 13, 0), (43, 43, 0, 0, 0, 4, 0), (44, 44, 0, 6, 16, 7, 0), (45, 45, 0, 0, 11, 4, 0), (46, 46, 0, 7, 16, 7, 0), (47, 47, 0, 0, 10, 7, 0), (48, 57, 0, 4, 17, 3, 0), (58, 58, 0, 5, 16, 7, 0), (59, 59, 0, 6, 16, 13, 0), (60, 62, 0, 0, 0, 13, 0), (63, 63, 0, 0, 15, 13, 0), (64, 64, 0, 0, 0, 13, 0), (65, 90, 0, 3, 0, 0, 0), (91, 91, 0, 0, 12, 13, 0), (92, 92, 0, 0, 0, 13, 0), (93, 93, 0, 0, 13, 13, 0), (94, 94, 0, 0, 0, 13, 0), (95, 95, 0, 8, 0, 13, 0), (96, 96, 0, 0, 0, 13, 0), (97, 122, 0, 3, 0, 0, 0), (123, 123, 0, 0, 12, 13, 0), (124, 124, 0, 0, 10, 13, 0), (125, 125, 0, 0, 13, 13, 0), (126, 126, 0, 0, 0, 13, 0), (127, 132, 3, 0, 7, 9, 0), (133, 133, 3, 1, 1, 10, 0), (134, 159, 3, 0, 7, 9, 0), (160, 160, 0, 0, 9, 7, 0), (161, 161, 0, 0, 12, 13, 0)]
def tab2 : List Row := [(162, 165, 0, 0, 0, 5, 0), (166, 169, 0, 0, 0, 13, 0), (170, 170, 0, 3, 0, 0, 0), (171, 171, 0, 0, 14, 13, 0), (172, 172, 0, 0, 0, 13, 0), (173, 173, 3, 10, 10, 9, 4), (174, 180, 0, 0, 0, 13, 0), (181, 181, 0, 3, 0, 0, 0), (182, 182, 0, 0, 0, 13, 0), (183, 183, 0, 5, 0, 13, 0), (184, 185, 0, 0, 0, 13, 0), (186, 186, 0, 3, 0, 0, 0), (187, 187, 0, 0, 14, 13, 0), (188, 191, 0, 0, 0, 13, 0), (192, 767, 0, 3, 0, 0, 0), (768, 879, 4, 10, 7, 8, 4), (880, 1423, 0, 3, 0, 0, 0), (1424, 1469, 4, 10, 7, 8, 4), (1470, 1470, 0, 0, 10, 1, 0), (1471, 1479, 4, 10, 7, 8, 4), (1488, 1514, 0, 3, 0, 1, 0), (1536, 1541, 7, 0, 0, 6, 0), (1548, 1548, 0, 6, 16, 7, 0), (1552, 1562, 4, 10, 7, 8, 4), (1563, 1563, 0, 0, 15, 2, 0), (1564, 1564, 3, 10, 7, 2, 4), (1567, 1567, 0, 0, 15, 2, 0), (1568, 1568, 0, 3, 0, 2, 2), (1569, 1569, 0, 3, 0, 2, 0), (1570, 1573, 0, 3, 0, 2, 1), (1574, 1574, 0, 3, 0, 2, 2), (1575, 1575, 0, 3, 0, 2, 1), (1576, 1576, 0, 3, 0, 2, 2), (1577, 1577, 0, 3, 0, 2, 1), (1578, 1582, 0, 3, 0, 2, 2), (1583, 1586, 0, 3, 0, 2, 1), (1587, 1599, 0, 3, 0, 2, 2), (1600, 1600, 0, 3, 0, 2, 3), (1601, 1607, 0, 3, 0, 2, 2), (1608, 1608, 0, 3, 0, 2, 1), (1609, 1610, 0, 3, 0, 2, 2), (1611, 1631, 4, 10, 7, 8, 4), (1632, 1641, 0, 4, 17, 6, 0), (1642, 1642, 0, 0, 0, 5, 0)]
def tab3 : List Row := [(1643, 1644, 0, 6, 16, 6, 0), (1648, 1648, 4, 10, 7, 8, 4), (1649, 1655, 0, 3, 0, 2, 1), (1656, 1671, 0, 3, 0, 2, 2), (1672, 1689, 0, 3, 0, 2, 1), (1690, 1727, 0, 3, 0, 2, 2), (1728, 1739, 0, 3, 0, 2, 1), (1740, 1747, 0, 3, 0, 2, 2), (1750, 1756, 4, 10, 7, 8, 4), (1776, 1785, 0, 4, 17, 3, 0), (2304, 2306, 4, 10, 7, 8, 0), (2307, 2307, 8, 10, 7, 0, 0), (2308, 2361, 0, 3, 0, 0, 0), (2364, 2364, 4, 10, 7, 8, 0), (2366, 2368, 8, 10, 7, 0, 0), (2369, 2376, 4, 10, 7, 8, 0), (2377, 2380, 8, 10, 7, 0, 0), (2381, 2381, 4, 10, 7, 8, 0), (2406, 2415, 0, 4, 17, 0, 0), (4352, 4447, 9, 3, 18, 0, 0), (4448, 4519, 10, 3, 18, 0, 0), (4520, 4607, 11, 3, 18, 0, 0), (8192, 8198, 0, 2, 10, 12, 0), (8199, 8199, 0, 0, 9, 12, 0), (8200, 8202, 0, 2, 10, 12, 0), (8203, 8203, 3, 0, 5, 9, 0), (8204, 8204, 4, 10, 7, 9, 0), (8205, 8205, 5, 11, 6, 9, 3), (8206, 8206, 3, 10, 7, 0, 4), (8207, 8207, 3, 10, 7, 1, 4), (8208, 8208, 0, 0, 10, 13, 0), (8209, 8209, 0, 0, 9, 13, 0), (8210, 8212, 0, 0, 10, 13, 0), (8213, 8215, 0, 0, 0, 13, 0), (8216, 8216, 0, 0, 14, 13, 0), (8217, 8217, 0, 7, 14, 13, 0), (8218, 8218, 0, 0, 12, 13, 0), (8220, 8221, 0, 0, 14, 13, 0), (8232, 8232, 3, 1, 1, 12, 0), (8233, 8233, 3, 1, 1, 10, 0), (8234, 8234, 3, 10, 7, 14, 4), (8235, 8235, 3, 10, 7, 16, 4), (8236, 8236, 3, 10, 7, 18, 4), (8237, 8237, 3, 10, 7, 15, 4)]
def tab4 : List Row := [(8238, 8238, 3, 10, 7, 17, 4), (8240, 8244, 0, 0, 0, 5, 0), (8255, 8256, 0, 8, 0, 13, 0), (8288, 8288, 3, 10, 8, 9, 4), (8294, 8294, 3, 10, 7, 19, 0), (8295, 8295, 3, 10, 7, 20, 0), (8296, 8296, 3, 10, 7, 21, 0), (8297, 8297, 3, 10, 7, 22, 0), (8352, 8399, 0, 0, 0, 5, 0), (8400, 8432, 4, 10, 7, 8, 4), (8592, 8959, 0, 0, 0, 13, 0), (9728, 10175, 14, 0, 18, 13, 0), (12288, 12288, 0, 2, 10, 12, 0), (12289, 12290, 0, 0, 13, 13, 0), (12293, 12295, 0, 0, 18, 0, 0), (12296, 12296, 0, 0, 12, 13, 0), (12297, 12297, 0, 0, 13, 13, 0), (12298, 12298, 0, 0, 12, 13, 0), (12299, 12299, 0, 0, 13, 13, 0), (12300, 12300, 0, 0, 12, 13, 0), (12301, 12301, 0, 0, 13, 13, 0), (12302, 12302, 0, 0, 12, 13, 0), (12303, 12303, 0, 0, 13, 13, 0), (12304, 12304, 0, 0, 12, 13, 0), (12305, 12305, 0, 0, 13, 13, 0), (12353, 12438, 0, 0, 18, 0, 0), (12441, 12442, 4, 10, 7, 8, 4), (12449, 12538, 0, 9, 18, 0, 0), (12540, 12540, 0, 9, 18, 0, 0), (13312, 40959, 0, 0, 18, 0, 0), (64285, 64335, 0, 3, 0, 1, 0), (64336, 65023, 0, 3, 0, 2, 0), (65024, 65039, 4, 10, 7, 8, 4), (65136, 65276, 0, 3, 0, 2, 0), (65279, 65279, 3, 10, 8, 9, 4), (127462, 127487, 6, 12, 19, 0, 0), (127744, 127994, 14, 0, 18, 13, 0), (127995, 127999, 4, 10, 7, 13, 4), (128000, 129791, 14, 0, 18, 13, 0), (131072, 262141, 0, 0, 18, 0, 0), (917760, 917999, 4, 10, 7, 8, 4)]
def rowC : Row → List V
  | (a, b, c, d, e, f, g) => [.int .i32 a, .int .i32 b, .int .u8 c, .int .u8 d, .int .u8 e, .int .u8 f, .int .u8 g]
def zrow : Row := (0, 0, 0, 0, 0, 0, 0)
def tcells (t : List Row) : List V := t.flatMap rowC
theorem rowC_len (x : Row) : (rowC x).length = 7 := rfl
theorem tcells_len : ∀ t : List Row, (tcells t).length = t.length * 7
  | [] => rfl
  | x :: t => by
    have ih := tcells_len t
    simp only [tcells, List.flatMap_cons, List.length_append, rowC_len, List.length_cons] at ih ⊢
    omega
theorem tcells_rf (t : List Row) : (tcells t).all V.rf = true := by
  simp only [tcells, List.all_flatMap]
  rw [List.all_eq_true]
  intro x _
  rfl
theorem tcells_leaf (t : List Row) : (tcells t).all V.leaf = true := by
  simp only [tcells, List.all_flatMap]
  rw [List.all_eq_true]
  intro x _
  rfl
theorem tcells_nn (t : List Row) : ∀ c ∈ tcells t, c ≠ V.nils := by
  intro c hc
  simp only [tcells, List.mem_flatMap] at hc
  obtain ⟨x, _, hx⟩ := hc
  simp only [rowC, List.mem_cons, List.not_mem_nil, or_false] at hx
  rcases hx with rfl | rfl | rfl | rfl | rfl | rfl | rfl <;> simp
theorem tcells_map (t : List Row) : isMap (tcells t) = false := by cases t <;> rfl
theorem tcells_chunk : ∀ t : List Row, chunk 7 t.length (tcells t) = t.map rowC
  | [] => rfl
  | x :: t => by
    have e : tcells (x :: t) = rowC x ++ tcells t := rfl
    rw [e, List.length_cons, chunk, List.map_cons, List.take_left' (rowC_len x), List.drop_left' (rowC_len x), tcells_chunk t]
theorem frz_rows {h : Heap} {b : Nat} {t : List Row} (hb : blockOf h b = some (tcells t)) : frzA h (.sl b 0 t.length t.length 7) = some (.lst (t.map rowC)) := by
  have ho : OwnC h 0 7 (.sl b 0 t.length t.length 7) (tcells t) := .inr ⟨b, t.length, rfl, tcells_len t, Nat.zero_le _, hb⟩
  unfold frzA
  rw [ho.frz (d := 4) (Nat.zero_le _) (tcells_rf t) (tcells_nn t) (by omega), tcells_len, Nat.mul_div_cancel _ (by omega), tcells_chunk]
  rfl
def searchS (t : List Row) (r : Int) : Row := match t.find? fun x => decide (r ≤ x.2.1) with
  | some x => if x.1 ≤ r then x else zrow
  | none => zrow
theorem find_at (t : List Row) (p : Row → Bool) : ∀ i : Nat, (∀ (j : Nat) (x : Row), j < i → t[j]? = some x → p x = false) → (∀ x, t[i]? = some x → p x = true) → t.find? p = t[i]? := by
  induction t with
  | nil => intro i _ _; simp
  | cons a t ih =>
    intro i h1 h2
    rcases i with _ | i
    · simp at h2
      simp [h2]
    · have h0 := h1 0 a (by omega) rfl
      rw [List.find?_cons, h0]
      simp only
      rw [ih i (fun j x hj hx => h1 (j + 1) x (by omega) (by simpa using hx)) (fun x hx => h2 x (by simpa using hx))]
      simp
section
variable {prim : FuncId → Option Prim} (d : Nat) (cfg : Cfg) (h : Heap)
set_option maxHeartbeats 1000000 in
theorem search_ok (hp : prim 183 = none) (t : List Row) (ht : t.length ≤ 100) (hso : ∀ (i j : Nat) (x y : Row), i < j → t[i]? = some x → t[j]? = some y → x.2.1 < y.2.1) (r : Int) {args : List V} (ha : args.mapM (frzA h) = some [.lst (t.map rowC), .int .i32 r]) :
    callM md (K prim (d + 1)) cfg 183 args h = some (.agg (rowC (searchS t r)), h) := by
  refine call3 rfl hp Tryz.func183 rfl rfl rfl (args' := [.lst (t.map rowC), .int .i32 r]) ha ?_
  simp
  refine wC_loop (fun m fr H => ∃ (lo hi : Nat), lo ≤ hi ∧ hi ≤ t.length ∧ m = hi - lo ∧ (∀ (j : Nat) (x : Row), j < lo → t[j]? = some x → x.2.1 < r) ∧ (∀ (j : Nat) (x : Row), hi ≤ j → t[j]? = some x → r ≤ x.2.1) ∧ H = [some (rowC zrow)] ∧
    Slots 45 [(0, .lst (t.map rowC)), (1, .int .i32 r), (4, .ptr 0 0), (5, .int .i64 lo), (6, .int .i64 hi)] fr) (m := t.length) (by omega) ⟨0, t.length, by omega, by omega, by omega, fun j x h => by omega, (fun j x hj hx => by rw [List.getElem?_eq_none hj] at hx; cases hx), rfl, by simp⟩ ?_
  rintro m fr H ⟨lo, hi, hlh, hhl, rfl, hlo, hhi, rfl, hs⟩
  obtain ⟨j, rfl⟩ := hs.ex
  clear hs
  by_cases hlt : lo < hi
  · have hm : ((lo : Int) + hi).tdiv 2 = ((lo + hi) / 2 : Nat) := by rw [Int.tdiv_eq_ediv_of_nonneg (by omega)]; omega
    have hml : (lo + hi) / 2 < t.length := by omega
    obtain ⟨x, hx⟩ : ∃ x, t[(lo + hi) / 2]? = some x := ⟨_, List.getElem?_eq_getElem hml⟩
    obtain ⟨x1, x2, x3, x4, x5, x6, x7⟩ := x
    have hm : ((lo : Int) + hi).tdiv 2 = ((lo : Int) + hi) / 2 := Int.tdiv_eq_ediv_of_nonneg (by omega)
    have hm2 : (((lo : Int) + hi) / 2).toNat = (lo + hi) / 2 := by omega
    have hm3 : ((lo : Int) + hi) / 2 = ((lo + hi) / 2 : Nat) := by omega
    simp (disch := omega) [hlt, hm, hm2, hx, rowC, wrap64, -getElem?_pos]
    by_cases hc : x2 < r
    · simp (disch := omega) [hc, wrap64]
      refine Rnd_of (m' := hi - ((lo + hi) / 2 + 1)) (by omega) ⟨(lo + hi) / 2 + 1, hi, by omega, hhl, rfl, fun j y hj hy => ?_, hhi, rfl, by simp (disch := omega)⟩
      by_cases e : j = (lo + hi) / 2
      · subst e; rw [hx] at hy; cases hy; exact hc
      · have := hso j _ y _ (by omega) hy hx
        simp only at this
        omega
    · simp [hc]
      refine Rnd_of (m' := (lo + hi) / 2 - lo) (by omega) ⟨lo, (lo + hi) / 2, by omega, by omega, rfl, hlo, fun j y hj hy => ?_, rfl, by simp⟩
      by_cases e : j = (lo + hi) / 2
      · subst e; rw [hx] at hy; cases hy; simp; omega
      · have := hso _ j _ y (by omega) hx hy
        simp at this
        omega
  · obtain rfl : lo = hi := by omega
    have hfind : t.find? (fun x => decide (r ≤ x.2.1)) = t[lo]? := find_at t _ lo (fun j x hj hx => by have := hlo j x hj hx; simp; omega) (fun x hx => by have := hhi lo x (Nat.le_refl _) hx; simpa using this)
    unfold searchS
    rw [hfind]
    by_cases hlt : lo < t.length
    · obtain ⟨⟨x1, x2, x3, x4, x5, x6, x7⟩, hx⟩ : ∃ x, t[lo]? = some x := ⟨_, List.getElem?_eq_getElem hlt⟩
      by_cases hc : x1 ≤ r
      · simp (disch := omega) [hlt, hx, rowC, hc, own, -getElem?_pos]
      · simp (disch := omega) [hlt, hx, rowC, hc, own, zrow, -getElem?_pos]
    · rw [List.getElem?_eq_none (by omega)]
      simp [hlt, own, rowC, zrow]
end
end Bi
end Go.Ab
namespace Go.Ab
def Stk (h : Heap) (lo k : Nat) (v : V) (cs : List V) : Prop :=
  (v = .nils ∧ cs = []) ∨ ∃ b n cap J, v = .sl b 0 n cap k ∧ lo ≤ b ∧ cs.length = n * k ∧ blockOf h b = some (cs ++ J) ∧ (cs ++ J).length = cap * k ∧ n ≤ cap
theorem Stk.blk {h : Heap} {lo k : Nat} {v : V} {cs : List V} (ho : Stk h lo k v cs) {b : Nat} (hb : blkOf v = some b) : lo ≤ b ∧ b < h.length := by
  rcases ho with ⟨rfl, rfl⟩ | ⟨c, n, cap, J, rfl, h1, _, hc, _⟩
  · cases hb
  · cases hb; exact ⟨h1, blockOf_lt hc⟩
theorem Stk.of_blk {h h' : Heap} {lo k : Nat} {v : V} {cs : List V} (ho : Stk h lo k v cs) (hh : ∀ b, blkOf v = some b → blockOf h' b = blockOf h b) : Stk h' lo k v cs := by
  rcases ho with ⟨rfl, rfl⟩ | ⟨c, n, cap, J, rfl, h1, h2, hc, h3, h4⟩
  · exact .inl ⟨rfl, rfl⟩
  · exact .inr ⟨c, n, cap, J, rfl, h1, h2, by rw [hh c rfl]; exact hc, h3, h4⟩
theorem Stk.push {h : Heap} {lo k : Nat} {v : V} {cs : List V} (ho : Stk h lo k v cs) (x : Heap) : Stk (h ++ x) lo k v cs :=
  ho.of_blk fun _ hb => blockOf_left (ho.blk hb).2
theorem Stk.set {h : Heap} {lo k c : Nat} {v : V} {cs : List V} (ho : Stk h lo k v cs) (hc : blkOf v ≠ some c) (x : Option (List V)) : Stk (h.set c x) lo k v cs :=
  ho.of_blk fun b hb => blockOf_set_ne' (by rintro rfl; exact hc hb)
theorem Stk.leaf {h : Heap} {lo k : Nat} {v : V} {cs : List V} (ho : Stk h lo k v cs) : v.leaf = true := by
  rcases ho with ⟨rfl, _⟩ | ⟨b, n, cap, J, rfl, _⟩ <;> rfl
theorem Stk.cells {h : Heap} {lo k : Nat} {v : V} {cs : List V} (ho : Stk h lo k v cs) : cellsOf v = some [v] := by
  rcases ho with ⟨rfl, _⟩ | ⟨b, n, cap, J, rfl, _⟩ <;> rfl
theorem Stk.len {P : Program} {t e : TypeId} {h : Heap} {lo k : Nat} {v : V} {cs : List V} (hu : P.underlying t = some (.slice e)) (hk : 0 < k) (ho : Stk h lo k v cs) : lenV P t v = some (.int .i64 (cs.length / k : Nat)) := by
  rcases ho with ⟨rfl, rfl⟩ | ⟨b, n, cap, J, rfl, _, hn, _⟩
  · rw [lenN_eq hu]; simp
  · rw [lenS_eq hu, hn, Nat.mul_div_cancel _ hk]
theorem Stk.pos {h : Heap} {lo k : Nat} {v : V} {cs : List V} (ho : Stk h lo k v cs) (hc : cs ≠ []) : ∃ b n cap J, v = .sl b 0 n cap k ∧ lo ≤ b ∧ b < h.length ∧ cs.length = n * k ∧ blockOf h b = some (cs ++ J) ∧ (cs ++ J).length = cap * k ∧ n ≤ cap := by
  rcases ho with ⟨rfl, rfl⟩ | ⟨b, n, cap, J, rfl, h1, h2, h3, h4, h5⟩
  · exact absurd rfl hc
  · exact ⟨b, n, cap, J, rfl, h1, blockOf_lt h3, h2, h3, h4, h5⟩
@[simp] theorem isMap_setI {k : IntKind} {l : List Int} {i : Nat} {x : Int} : isMap ((l.map (V.int k)).set i (.int k x)) = false := by rw [ints_set]; exact isMap_ints
theorem putAt_mid : ∀ (new a J : List V), new.length ≤ J.length → putAt (a ++ J) a.length new = a ++ new ++ J.drop new.length
  | [], a, J, _ => by simp
  | v :: r, a, J, h => by
    rcases J with _ | ⟨x, J⟩
    · simp at h
    · have e : setS (a ++ x :: J) a.length v = (a ++ [v]) ++ J := by
        rw [setS, List.set_append_right _ _ (Nat.le_refl _)]
        simp
      have := putAt_mid r (a ++ [v]) J (by simpa using h)
      rw [putAt_cons, e]
      simp only [List.length_append, List.length_cons, List.length_nil] at this
      rw [this]
      simp
section
variable {P : Program} {md : FuncId → Nat} {call : Callf} {cfg : Cfg} {n : Nat}
end
end Go.Ab
