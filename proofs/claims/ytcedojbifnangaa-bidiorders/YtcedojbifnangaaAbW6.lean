/- Heaps of a function: fixed blocks first, then slices of its own, anywhere behind. -/
import Derived.Test.YtcedojbifnangaaAbW5
namespace Go.Ab

/-- A slice of the function's own with elements of k cells: nil, or a whole block from lo on. -/
def OwnC (h : Heap) (lo k : Nat) (v : V) (cs : List V) : Prop :=
  (v = .nils ∧ cs = []) ∨ ∃ b n, v = .sl b 0 n n k ∧ cs.length = n * k ∧ lo ≤ b ∧ blockOf h b = some cs

abbrev Own := Nat × V × List V

structure Hp (H base : Heap) (os : List Own) : Prop where
  take : H.take base.length = base
  le : base.length ≤ H.length
  own : ∀ o ∈ os, OwnC H base.length o.1 o.2.1 o.2.2
  dj : os.Pairwise fun a b => Dj a.2.1 b.2.1

theorem OwnC.blk {h : Heap} {lo k : Nat} {v : V} {cs : List V} (ho : OwnC h lo k v cs) {b : Nat} (hb : blkOf v = some b) : lo ≤ b ∧ b < h.length := by
  rcases ho with ⟨rfl, rfl⟩ | ⟨c, n, rfl, _, h1, hc⟩
  · cases hb
  · cases hb; exact ⟨h1, blockOf_lt hc⟩
theorem OwnC.of_blk {h h' : Heap} {lo k : Nat} {v : V} {cs : List V} (ho : OwnC h lo k v cs) (hh : ∀ b, blkOf v = some b → blockOf h' b = blockOf h b) : OwnC h' lo k v cs := by
  rcases ho with ⟨rfl, rfl⟩ | ⟨c, n, rfl, hn, h1, hc⟩
  · exact .inl ⟨rfl, rfl⟩
  · exact .inr ⟨c, n, rfl, hn, h1, by rw [hh c rfl]; exact hc⟩
theorem OwnC.lo {h : Heap} {lo lo' k : Nat} {v : V} {cs : List V} (ho : OwnC h lo k v cs) (hl : lo' ≤ lo) : OwnC h lo' k v cs := by
  rcases ho with ⟨rfl, rfl⟩ | ⟨c, n, rfl, hn, h1, hc⟩
  · exact .inl ⟨rfl, rfl⟩
  · exact .inr ⟨c, n, rfl, hn, by omega, hc⟩
theorem OwnC.pos {h : Heap} {lo k : Nat} {v : V} {cs : List V} (ho : OwnC h lo k v cs) (hc : cs ≠ []) : ∃ b n, v = .sl b 0 n n k ∧ cs.length = n * k ∧ lo ≤ b ∧ b < h.length ∧ blockOf h b = some cs := by
  rcases ho with ⟨rfl, rfl⟩ | ⟨c, n, rfl, hn, h1, hb⟩
  · exact absurd rfl hc
  · exact ⟨c, n, rfl, hn, h1, blockOf_lt hb, hb⟩
/-- The same for a slice of integers. -/
theorem OwnC.ints {h : Heap} {lo : Nat} {v : V} {kd : IntKind} {l : List Int} (ho : OwnC h lo 1 v (l.map (V.int kd))) (hc : 0 < l.length) : ∃ b, v = .sl b 0 l.length l.length 1 ∧ lo ≤ b ∧ b < h.length ∧ blockOf h b = some (l.map (V.int kd)) := by
  obtain ⟨b, n, rfl, hn, h1, h2, h3⟩ := ho.pos (by intro h; simp at h; subst h; simp at hc)
  simp at hn
  subst hn
  exact ⟨b, rfl, h1, h2, h3⟩
theorem OwnC.len {P : Program} {t e : TypeId} {h : Heap} {lo k : Nat} {v : V} {cs : List V} (hu : P.underlying t = some (.slice e)) (hk : 0 < k) (ho : OwnC h lo k v cs) : lenV P t v = some (.int .i64 (cs.length / k : Nat)) := by
  rcases ho with ⟨rfl, rfl⟩ | ⟨b, n, rfl, hn, _, hb⟩
  · rw [lenN_eq hu]; simp
  · rw [lenS_eq hu, hn, Nat.mul_div_cancel _ hk]
theorem OwnC.leaf {h : Heap} {lo k : Nat} {v : V} {cs : List V} (ho : OwnC h lo k v cs) : v.leaf = true := by
  rcases ho with ⟨rfl, _⟩ | ⟨b, n, rfl, _⟩ <;> rfl
theorem OwnC.cells {h : Heap} {lo k : Nat} {v : V} {cs : List V} (ho : OwnC h lo k v cs) : cellsOf v = some [v] := by
  rcases ho with ⟨rfl, _⟩ | ⟨b, n, rfl, _⟩ <;> rfl
theorem OwnC.len1 {P : Program} {t e : TypeId} {h : Heap} {lo : Nat} {v : V} {cs : List V} (hu : P.underlying t = some (.slice e)) (ho : OwnC h lo 1 v cs) : lenV P t v = some (.int .i64 cs.length) := by
  rw [ho.len hu (by omega), Nat.div_one]
theorem mapM_frz_rf {h : Heap} {n d : Nat} : ∀ {cs : List V}, cs.all V.rf = true → (∀ c ∈ cs, c ≠ .nils) → cs.mapM (frz h n (d + 1)) = some cs
  | [], _, _ => rfl
  | c :: cs, hr, hn => by
    simp only [List.all_cons, Bool.and_eq_true] at hr
    have ih := mapM_frz_rf (h := h) (n := n) (d := d) hr.2 (fun x hx => hn x (List.mem_cons_of_mem _ hx))
    have h0 : frz h n (d + 1) c = some c := by
      have := hr.1
      have hc := hn c (List.mem_cons_self ..)
      cases c <;> first | rfl | (exact absurd rfl hc) | (simp [V.rf] at this; done)
    simp [List.mapM_cons, h0, ih]
theorem OwnC.frz {h : Heap} {lo n d k : Nat} {v : V} {cs : List V} (ho : OwnC h lo k v cs) (hn : n ≤ lo) (hr : cs.all V.rf = true) (hnn : ∀ c ∈ cs, c ≠ .nils) (hk : 0 < k) : frz h n (d + 2) v = some (.lst (chunk k (cs.length / k) cs)) := by
  rcases ho with ⟨rfl, rfl⟩ | ⟨b, m, rfl, hm, h1, hb⟩
  · simp [chunk]
  · rw [frz_sl, if_neg (by omega), hb]
    have e : List.take (m * k) cs = cs := by rw [← hm, List.take_length]
    simp only [Nat.zero_add, List.drop_zero, hm, Nat.le_refl, if_true, e, mapM_frz_rf hr hnn, hr, Nat.mul_div_cancel _ hk]
theorem OwnC.frzI {h : Heap} {lo n d : Nat} {v : V} {kd : IntKind} {l : List Int} (ho : OwnC h lo 1 v (l.map (V.int kd))) (hn : n ≤ lo) : Go.Ab.frz h n (d + 2) v = some (.lst (l.map fun x => [.int kd x])) := by
  rw [ho.frz hn (by simp) (by simp) (by omega)]
  simp only [Nat.div_one, chunk_one, List.map_map]
  rfl
theorem OwnC.frzA {h : Heap} {lo : Nat} {v : V} {kd : IntKind} {l : List Int} (ho : OwnC h lo 1 v (l.map (V.int kd))) : Go.Ab.frzA h v = some (.lst (l.map fun x => [.int kd x])) := by
  unfold Go.Ab.frzA
  rw [ho.frzI (d := 4) (Nat.zero_le _)]
  rfl
theorem OwnC.own {h : Heap} {lo d k : Nat} {v : V} {cs : List V} (ho : OwnC h lo k v cs) (hr : ∀ c ∈ cs, Go.Ab.own h (d + 1) c = true) : Go.Ab.own h (d + 2) v = true := by
  rcases ho with ⟨rfl, rfl⟩ | ⟨b, n, rfl, hn, h1, hb⟩
  · rfl
  · show (match blockOf h b with
      | some cs => ((cs.drop 0).take (n * k)).all (Go.Ab.own h (d + 1))
      | none => false) = true
    rw [hb]
    simp only [List.drop_zero, List.all_eq_true]
    exact fun c hc => hr c (List.mem_of_mem_take hc)
theorem OwnC.ownI {h : Heap} {lo d : Nat} {v : V} {kd : IntKind} {l : List Int} (ho : OwnC h lo 1 v (l.map (V.int kd))) : Go.Ab.own h (d + 2) v = true := by
  refine ho.own fun c hc => ?_
  obtain ⟨x, _, rfl⟩ := List.mem_map.1 hc
  rfl

@[simp] theorem own_agg {h : Heap} {d : Nat} {cs : List V} : Go.Ab.own h (d + 1) (.agg cs) = cs.all (Go.Ab.own h d) := rfl
@[simp] theorem own_tup {h : Heap} {d : Nat} {cs : List V} : Go.Ab.own h (d + 1) (.tup cs) = cs.all (Go.Ab.own h d) := rfl
@[simp] theorem own_int {h : Heap} {d : Nat} {k : IntKind} {n : Int} : Go.Ab.own h (d + 1) (.int k n) = true := rfl
@[simp] theorem own_bool {h : Heap} {d : Nat} {b : Bool} : Go.Ab.own h (d + 1) (.bool b) = true := rfl
@[simp] theorem own_str {h : Heap} {d : Nat} {b : ByteArray} : Go.Ab.own h (d + 1) (.str b) = true := rfl
@[simp] theorem own_nils {h : Heap} {d : Nat} : Go.Ab.own h (d + 1) .nils = true := rfl
@[simp] theorem own_lst0 {h : Heap} {d : Nat} : Go.Ab.own h (d + 1) (.lst []) = true := rfl
theorem Hp.start {H : Heap} : Hp H H [] := ⟨List.take_length, Nat.le_refl _, by simp, List.Pairwise.nil⟩
theorem Hp.cut {H base : Heap} {os : List Own} {n : Nat} (h : Hp H base os) (hn : n ≤ base.length) : Hp H (base.take n) os := by
  have hl : (base.take n).length = n := by simp; omega
  refine ⟨?_, by rw [hl]; have := h.le; omega, fun o ho => ?_, h.dj⟩
  · rw [hl]
    conv => rhs; rw [← h.take]
    rw [List.take_take, Nat.min_eq_left hn]
  · rw [hl]; exact (h.own o ho).lo hn
theorem Hp.block {H base : Heap} {os : List Own} {b : Nat} (h : Hp H base os) (hb : b < base.length) : blockOf H b = blockOf base b := by
  have : H[b]? = base[b]? := by
    conv => rhs; rw [← h.take]
    rw [List.getElem?_take_of_lt hb]
  simp [blockOf, this]
theorem Hp.push {H base : Heap} {os : List Own} (h : Hp H base os) (x : Heap) : Hp (H ++ x) base os := by
  refine ⟨?_, by have := h.le; simp; omega, fun o ho => (h.own o ho).of_blk fun b hb => blockOf_left ((h.own o ho).blk hb).2, h.dj⟩
  rw [List.take_append_of_le_length h.le, h.take]
theorem Hp.set {H base : Heap} {os : List Own} {b : Nat} (h : Hp H base os) (hb : b < base.length) (x : Option (List V)) : Hp (H.set b x) (base.set b x) os := by
  refine ⟨?_, by simpa using h.le, fun o ho => ?_, h.dj⟩
  · rw [List.length_set, List.take_set, h.take]
  · rw [List.length_set]
    exact (h.own o ho).of_blk fun c hc => blockOf_set_ne' (by have := ((h.own o ho).blk hc).1; omega)
/-- A block behind the fixed ones that is nobody's. -/
theorem Hp.new {H base : Heap} {os : List Own} {n k : Nat} {cs : List V} (h : Hp H base os) (hm : isMap cs = false) (hn : cs.length = n * k) (x : Heap) : Hp (H ++ some cs :: x) base ((k, .sl H.length 0 n n k, cs) :: os) := by
  have hp := h.push (some cs :: x)
  refine ⟨hp.take, hp.le, fun o ho => ?_, List.pairwise_cons.2 ⟨fun o ho => ?_, h.dj⟩⟩
  · rcases List.mem_cons.1 ho with rfl | ho
    · exact .inr ⟨_, n, rfl, hn, h.le, by simp [hm]⟩
    · exact hp.own o ho
  · intro b hb hb2
    cases hb
    have := ((h.own o ho).blk hb2).2
    omega
theorem Hp.nil {H base : Heap} {os : List Own} (h : Hp H base os) (k : Nat) : Hp H base ((k, .nils, []) :: os) := by
  refine ⟨h.take, h.le, fun o ho => ?_, List.pairwise_cons.2 ⟨fun o _ b hb => by simp [blkOf] at hb, h.dj⟩⟩
  rcases List.mem_cons.1 ho with rfl | ho
  · exact .inl ⟨rfl, rfl⟩
  · exact h.own o ho
theorem Hp.drop {H base : Heap} {os os' : List Own} (h : Hp H base os) (hs : os'.Sublist os) : Hp H base os' :=
  ⟨h.take, h.le, fun o ho => h.own o (hs.subset ho), h.dj.sublist hs⟩
theorem Hp.perm {H base : Heap} {os os' : List Own} (h : Hp H base os) (hs : os.Perm os') : Hp H base os' :=
  ⟨h.take, h.le, fun o ho => h.own o (hs.mem_iff.2 ho), hs.pairwise h.dj (fun {_ _} h => h.symm)⟩
theorem Hp.swap {H base : Heap} {a b : Own} {os : List Own} (h : Hp H base (a :: b :: os)) : Hp H base (b :: a :: os) := h.perm (.swap ..)
theorem Hp.tail {H base : Heap} {a : Own} {os : List Own} (h : Hp H base (a :: os)) : Hp H base os := h.drop (List.sublist_cons_self ..)
theorem Hp.head {H base : Heap} {k : Nat} {v : V} {cs : List V} {os : List Own} (h : Hp H base ((k, v, cs) :: os)) : OwnC H base.length k v cs := h.own (k, v, cs) (List.mem_cons_self ..)
theorem Hp.snd {H base : Heap} {a : Own} {k : Nat} {v : V} {cs : List V} {os : List Own} (h : Hp H base (a :: (k, v, cs) :: os)) : OwnC H base.length k v cs := h.tail.head
theorem Hp.thd {H base : Heap} {a b : Own} {k : Nat} {v : V} {cs : List V} {os : List Own} (h : Hp H base (a :: b :: (k, v, cs) :: os)) : OwnC H base.length k v cs := h.tail.tail.head
/-- One of the own slices gets other cells. -/
theorem Hp.setO {H base : Heap} {os : List Own} {k n b : Nat} {cs cs' : List V} (h : Hp H base ((k, .sl b 0 n n k, cs) :: os)) (hm : isMap cs' = false) (hl : cs'.length = cs.length) : Hp (H.set b (some cs')) base ((k, .sl b 0 n n k, cs') :: os) := by
  have hh := h.head
  obtain ⟨hb1, hb2⟩ := hh.blk (b := b) rfl
  have hd := List.pairwise_cons.1 h.dj
  rcases hh with ⟨hh, _⟩ | ⟨b', n', hv, hn, h1, h2⟩
  · cases hh
  cases hv
  refine ⟨?_, by simpa using h.le, fun o ho => ?_, List.pairwise_cons.2 ⟨hd.1, hd.2⟩⟩
  · rw [List.take_set_of_le hb1, h.take]
  · rcases List.mem_cons.1 ho with rfl | ho
    · exact .inr ⟨_, _, rfl, by rw [hl]; exact hn, hb1, by simp [hb2, hm]⟩
    · refine (h.own o (List.mem_cons_of_mem _ ho)).of_blk fun c hc => blockOf_set_ne' ?_
      intro e
      subst e
      exact hd.1 o ho b rfl hc

theorem isMap_append {a b : List V} (ha : isMap a = false) (hb : isMap b = false) : isMap (a ++ b) = false := by
  cases a with
  | nil => exact hb
  | cons x a => cases x <;> first | rfl | simp [isMap] at ha
theorem isMap_of_block {h : Heap} {b : Nat} {cs : List V} (hb : blockOf h b = some cs) : isMap cs = false := by
  unfold blockOf at hb
  split at hb
  · rename_i x _
    split at hb
    · cases hb
    · rename_i hx
      cases hb
      simpa using hx
  · cases hb
/-- What holds at a place where ways come together. -/
def Mid [I : Hid (List V → Heap → Prop)] (fr : List V) (h : Heap) : Prop := I.val fr h
def kMid [I : Hid (List V → Heap → Prop)] (e : Ex) (fr : List V) (h : Heap) : Prop :=
  match e with
  | .normal => @Mid I fr h
  | _ => False
@[simp] theorem kMid_normal {I : List V → Heap → Prop} {fr : List V} {h : Heap} : @kMid ⟨I⟩ .normal fr h ↔ @Mid ⟨I⟩ fr h := Iff.rfl
theorem Mid_of {I : List V → Heap → Prop} {fr : List V} {h : Heap} (hi : I fr h) : @Mid ⟨I⟩ fr h := hi
section
variable {P : Program} {md : FuncId → Nat} {call : Callf} {cfg : Cfg} {n : Nat}
theorem wC_mid {c b : Code} {fr : List V} {h : Heap} {Q : Kont} (I : List V → Heap → Prop) (h1 : @wC P md call cfg n ⟨c⟩ fr h ⟨@kMid ⟨I⟩⟩) (h2 : ∀ fr h, I fr h → @wC P md call cfg n ⟨b⟩ fr h ⟨Q⟩) :
    @wC P md call cfg n ⟨c⟩ fr h ⟨@kSeq P md call cfg n ⟨b⟩ ⟨Q⟩⟩ := by
  refine wC_mono h1 fun e fr h hm => ?_
  cases e with
  | normal => exact h2 fr h hm
  | exit i => exact hm.elim
  | ret => exact hm.elim
/-- append to the first of the own slices. -/
theorem wS_appO {dst : Option Tmp} {fr : List V} {ops : Array Oper} {rest : List Oper} {Q : KontO} {h base : Heap} {os : List Own} {d : V} {cs new : List V} {k m y : Nat} (ho : Hp h base ((k, d, cs) :: os)) (hlo : cfg.lo ≤ base.length)
    (hnew : new.length = m * k) (hmn : isMap new = false) (hm : 0 < m) (hk : 0 < k) (hsz : (cs.length / k + m) * y ≤ 1099511627776) (hlen : cs.length / k + m ≤ 1099511627776)
    (H : ∀ d' h', Hp h' base ((k, d', cs ++ new) :: os) → @wO P md call cfg ⟨ops⟩ ⟨rest⟩ (put fr dst d') h' ⟨Q⟩) :
    @wS P md call cfg ⟨dst⟩ ⟨fr⟩ (appD cfg h k y d m new) ⟨ops⟩ ⟨rest⟩ ⟨Q⟩ := by
  have hd := List.pairwise_cons.1 ho.dj
  rcases ho.head with ⟨hh, hcs⟩ | ⟨b, n, hv, hn, h1, hb⟩
  · subst hh hcs
    simp only [List.length_nil, Nat.zero_div, Nat.zero_add] at hsz hlen
    rw [appD_nils hsz hlen hm, wS_some]
    exact H _ _ (by simpa using ho.tail.new hmn hnew [])
  · subst hv
    rw [hn, Nat.mul_div_cancel _ hk] at hsz hlen
    have hbl := blockOf_lt hb
    have hw : cfg.wr b = true := by simp only [Cfg.wr, Bool.or_eq_true, decide_eq_true_eq]; left; omega
    rw [appD_grow hb hw hsz hlen (by omega) (by omega), wS_some, ← hn, List.take_length]
    refine H _ _ ?_
    have hp0 : Hp (h.set b none) base os := by
      refine ⟨?_, by simpa using ho.le, fun o hoo => ?_, hd.2⟩
      · rw [List.take_set_of_le h1, ho.take]
      · refine (ho.own o (List.mem_cons_of_mem _ hoo)).of_blk fun c hc => blockOf_set_ne' ?_
        intro e
        subst e
        exact hd.1 o hoo b rfl hc
    have := hp0.new (cs := cs ++ new) (n := n + m) (k := k) (isMap_append (isMap_of_block hb) hmn) (by simp [hn, hnew, Nat.add_mul]) []
    simpa using this
end
end Go.Ab
