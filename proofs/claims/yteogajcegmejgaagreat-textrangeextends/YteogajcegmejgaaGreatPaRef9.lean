/- Several texts of this proof in one. -/
import Derived.Test.YteogajcegmejgaaGreatPaGen
import Derived.Test.YteogajcegmejgaaGreatPiDis
import Derived.Test.YteogajcegmejgaaGreatPiRt
namespace Go.Ab
theorem Hp.call {H H2 base : Heap} {os os2 : List Own} (h : Hp H base os) (h2 : Hp H2 H os2) : Hp H2 base (os2 ++ os) := by
  refine ⟨?_, Nat.le_trans h.le h2.le, fun o ho => ?_, List.pairwise_append.2 ⟨h2.dj, h.dj, fun a ha b hb c hc hc2 => ?_⟩⟩
  · have := congrArg (List.take base.length) h2.take
    rw [List.take_take, Nat.min_eq_left h.le, h.take] at this
    exact this
  · rcases List.mem_append.1 ho with ho | ho
    · exact (h2.own o ho).lo h.le
    · exact (h.own o ho).of_blk fun b hb => h2.block ((h.own o ho).blk hb).2
  · have h3 := ((h2.own a ha).blk hc).1
    have h4 := ((h.own b hb).blk hc2).2
    omega
theorem Hp.call1 {H H2 base : Heap} {os : List Own} {o : Own} (h : Hp H base os) (h2 : Hp H2 H [o]) : Hp H2 base (o :: os) := h.call h2
theorem flat_at {α : Type} {f : α → List V} {n k : Nat} (hf : ∀ x, (f x).length = n) (hk : k < n) : ∀ (l : List α) (i : Nat), (l.flatMap f)[i * n + k]? = (l[i]?).bind fun x => (f x)[k]?
  | [], i => by simp
  | x :: l, 0 => by
    rw [List.flatMap_cons, List.getElem?_append_left (by rw [hf]; omega)]
    simp
  | x :: l, i + 1 => by
    rw [List.flatMap_cons, List.getElem?_append_right (by rw [hf, Nat.add_mul]; omega), hf]
    have e : (i + 1) * n + k - n = i * n + k := by rw [Nat.add_mul]; omega
    rw [e, flat_at hf hk l i]
    simp
theorem flat_slot {α : Type} {f : α → List V} {n k : Nat} (hf : ∀ x, (f x).length = n) (hk : k < n) {l : List α} {i : Nat} {x : α} (hx : l[i]? = some x) : slot (l.flatMap f) (i * n + k) = slot (f x) k := by
  rw [slot, flat_at hf hk, hx]; rfl
theorem flat_set {α : Type} {f : α → List V} {n k : Nat} (hf : ∀ x, (f x).length = n) (hk : k < n) {v : V} : ∀ {l : List α} {i : Nat} {x x' : α}, l[i]? = some x → f x' = setS (f x) k v → setS (l.flatMap f) (i * n + k) v = (l.set i x').flatMap f
  | [], i, _, _, h, _ => by simp at h
  | y :: l, 0, x, x', h, e => by
    simp at h
    subst h
    rw [setS, List.flatMap_cons, List.set_append_left _ _ (by rw [hf]; omega), List.set_cons_zero, List.flatMap_cons, e]
    simp [setS]
  | y :: l, i + 1, x, x', h, e => by
    have ih := flat_set hf hk (l := l) (i := i) (by simpa using h) e
    rw [setS] at ih ⊢
    rw [List.flatMap_cons, List.set_append_right _ _ (by rw [hf, Nat.add_mul]; omega), hf]
    have e2 : (i + 1) * n + k - n = i * n + k := by rw [Nat.add_mul]; omega
    rw [e2, ih, List.set_cons_succ, List.flatMap_cons]
theorem flat_drop {α : Type} {f : α → List V} {n : Nat} (hf : ∀ x, (f x).length = n) : ∀ (l : List α) (i : Nat), (l.flatMap f).drop (i * n) = (l.drop i).flatMap f
  | [], i => by simp
  | x :: l, 0 => by simp
  | x :: l, i + 1 => by
    rw [List.flatMap_cons, List.drop_append, hf, List.drop_of_length_le (by rw [hf, Nat.add_mul]; omega), List.nil_append]
    have e : (i + 1) * n - n = i * n := by rw [Nat.add_mul]; omega
    rw [e, flat_drop hf l i, List.drop_succ_cons]
theorem flat_takeN {α : Type} {f : α → List V} {n : Nat} (hf : ∀ x, (f x).length = n) : ∀ (l : List α) (i : Nat), (l.flatMap f).take (i * n) = (l.take i).flatMap f
  | [], i => by simp
  | x :: l, 0 => by simp
  | x :: l, i + 1 => by
    rw [List.flatMap_cons, List.take_append, hf, List.take_of_length_le (by rw [hf, Nat.add_mul]; omega)]
    have e : (i + 1) * n - n = i * n := by rw [Nat.add_mul]; omega
    rw [e, flat_takeN hf l i, List.take_succ_cons, List.flatMap_cons]
theorem flat_part {α : Type} {f : α → List V} {n : Nat} (hf : ∀ x, (f x).length = n) (l : List α) (q e : Nat) : ((l.flatMap f).drop (q * n)).take ((e - q) * n) = ((l.take e).drop q).flatMap f := by
  rw [flat_drop hf, flat_takeN hf, List.drop_take]
theorem OwnC.lenF {P : Program} {t e : TypeId} {α : Type} {f : α → List V} {n : Nat} (hf : ∀ x, (f x).length = n) (hn : 0 < n) (hu : P.underlying t = some (.slice e)) {h : Heap} {lo : Nat} {v : V} {l : List α} (ho : OwnC h lo n v (l.flatMap f)) : lenV P t v = some (.int .i64 l.length) := by
  rw [ho.len hu hn, flat_len hf, Nat.mul_div_cancel _ hn]
theorem OwnC.posF {α : Type} {f : α → List V} {n : Nat} (hf : ∀ x, (f x).length = n) (hn : 0 < n) {h : Heap} {lo : Nat} {v : V} {l : List α} (ho : OwnC h lo n v (l.flatMap f)) (hl : 0 < l.length) : ∃ b, v = .sl b 0 l.length l.length n ∧ lo ≤ b ∧ b < h.length ∧ blockOf h b = some (l.flatMap f) := by
  have hfl := flat_len hf l
  obtain ⟨b, m, rfl, hm, h1, h2, h3⟩ := ho.pos (by intro e; rw [e] at hfl; have h0 := Nat.mul_pos hl hn; rw [← hfl] at h0; exact absurd h0 (by simp))
  have : m = l.length := by
    rw [hfl] at hm
    exact (Nat.eq_of_mul_eq_mul_right hn hm).symm
  subst this
  exact ⟨b, rfl, h1, h2, h3⟩
def kMidQ [I : Hid (List V → Heap → Prop)] [Q : Hid Kont] (e : Ex) (fr : List V) (h : Heap) : Prop :=
  match e with
  | .normal => @Mid I fr h
  | e => Q.val e fr h
@[simp] theorem kMidQ_normal {I : List V → Heap → Prop} {Q : Kont} {fr : List V} {h : Heap} : @kMidQ ⟨I⟩ ⟨Q⟩ .normal fr h ↔ @Mid ⟨I⟩ fr h := Iff.rfl
@[simp] theorem kMidQ_exit {I : List V → Heap → Prop} {Q : Kont} {i : Nat} {fr : List V} {h : Heap} : @kMidQ ⟨I⟩ ⟨Q⟩ (.exit i) fr h ↔ Q (.exit i) fr h := Iff.rfl
@[simp] theorem kMidQ_ret {I : List V → Heap → Prop} {Q : Kont} {fr : List V} {h : Heap} : @kMidQ ⟨I⟩ ⟨Q⟩ .ret fr h ↔ Q .ret fr h := Iff.rfl
section
variable {P : Program} {md : FuncId → Nat} {call : Callf} {cfg : Cfg} {n : Nat}
theorem wC_midQ {c b : Code} {fr : List V} {h : Heap} {Q : Kont} (I : List V → Heap → Prop) (h1 : @wC P md call cfg n ⟨c⟩ fr h ⟨@kMidQ ⟨I⟩ ⟨Q⟩⟩) (h2 : ∀ fr h, I fr h → @wC P md call cfg n ⟨b⟩ fr h ⟨Q⟩) :
    @wC P md call cfg n ⟨c⟩ fr h ⟨@kSeq P md call cfg n ⟨b⟩ ⟨Q⟩⟩ := by
  refine wC_mono h1 fun e fr h hm => ?_
  cases e with
  | normal => exact h2 fr h hm
  | exit i => exact hm
  | ret => exact hm
end
theorem blk_setA {H : Heap} {b : Nat} (hb : b < H.length) {X : List V} (hm : isMap X = false) (Y : Heap) : blockOf (H.set b (some X) ++ Y) b = some X := by
  rw [blockOf_left (by simpa using hb)]
  simp [blockOf, hb, hm]
theorem blk_setN {H : Heap} {b c : Nat} (hc : c < H.length) (h : b ≠ c) (X : Option (List V)) (Y : Heap) : blockOf (H.set b X ++ Y) c = blockOf H c := by
  rw [blockOf_left (by simpa using hc)]
  simp [blockOf, h]
theorem set_setA {H : Heap} {b : Nat} (hb : b < H.length) (X Z : Option (List V)) (Y : Heap) : (H.set b X ++ Y).set b Z = H.set b Z ++ Y := by
  rw [List.set_append_left _ _ (by simpa using hb), List.set_set]
theorem blk_setE {H : Heap} {b : Nat} (X : Option (List V)) {Y : List V} (hm : isMap Y = false) (Z : Heap) : blockOf (H.set b X ++ some Y :: Z) H.length = some Y := by
  simp [blockOf, hm]
section
variable {P : Program} {md : FuncId → Nat} {call : Callf} {cfg : Cfg} {n : Nat}
theorem appD_none {h base : Heap} {os : List Own} {d : V} {cs : List V} {k y : Nat} (ho : Hp h base ((k, d, cs) :: os)) (hlo : cfg.lo ≤ base.length) (hk : 0 < k) (hsz : cs.length / k * y ≤ 1099511627776) (hlen : cs.length / k ≤ 1099511627776) :
    appD cfg h k y d 0 [] = some (d, h) := by
  rcases ho.head with ⟨rfl, rfl⟩ | ⟨b, n, rfl, hn, h1, hb⟩
  · simp [appD, roomy]
  · rw [hn, Nat.mul_div_cancel _ hk] at hsz hlen
    have hw : cfg.wr b = true := by simp only [Cfg.wr, Bool.or_eq_true, decide_eq_true_eq]; left; omega
    have hr : roomy n y = true := by simp [roomy]; omega
    simp [appD, hr, storeCellsV, hb, hw, hn, set_same hb, putAt]
theorem wS_appG {dst : Option Tmp} {fr : List V} {ops : Array Oper} {rest : List Oper} {Q : KontO} {h base : Heap} {os : List Own} {d : V} {cs new : List V} {k m y : Nat} (ho : Hp h base ((k, d, cs) :: os)) (hlo : cfg.lo ≤ base.length)
    (hnew : new.length = m * k) (hmn : isMap new = false) (hk : 0 < k) (hsz : (cs.length / k + m) * y ≤ 1099511627776) (hlen : cs.length / k + m ≤ 1099511627776)
    (H : ∀ d' h', Hp h' base ((k, d', cs ++ new) :: os) → @wO P md call cfg ⟨ops⟩ ⟨rest⟩ (put fr dst d') h' ⟨Q⟩) :
    @wS P md call cfg ⟨dst⟩ ⟨fr⟩ (appD cfg h k y d m new) ⟨ops⟩ ⟨rest⟩ ⟨Q⟩ := by
  rcases Nat.eq_zero_or_pos m with rfl | hm
  · have e : new = [] := List.eq_nil_of_length_eq_zero (by simpa using hnew)
    subst e
    rw [appD_none ho hlo hk (by simpa using hsz) (by simpa using hlen), wS_some]
    exact H d h (by simpa using ho)
  · exact wS_appO ho hlo hnew hmn hm hk hsz hlen H
end
end Go.Ab
namespace Go.Ab
namespace Bi
structure Gly where
  i : Int
  m : Int
  f : Int
  t : Int
  x : Int
  a : Int
  n : Int
  z : Int
def glyC (g : Gly) : List V := [.int .i64 g.i, .int .i64 g.m, .int .i64 g.f, .int .i64 g.t, .int .i64 g.x, .int .i64 g.a, .int .i64 g.n, .int .i64 g.z]
theorem gly_len (g : Gly) : (glyC g).length = 8 := rfl
theorem gly_at2 {l : List Gly} {i : Nat} {g : Gly} (h : l[i]? = some g) : slot (l.flatMap glyC) (i * 8 + 2) = some (.int .i64 g.f) := flat_slot gly_len (by omega) h
theorem gly_at3 {l : List Gly} {i : Nat} {g : Gly} (h : l[i]? = some g) : slot (l.flatMap glyC) (i * 8 + 3) = some (.int .i64 g.t) := flat_slot gly_len (by omega) h
theorem gly_at5 {l : List Gly} {i : Nat} {g : Gly} (h : l[i]? = some g) : slot (l.flatMap glyC) (i * 8 + 5) = some (.int .i64 g.a) := flat_slot gly_len (by omega) h
theorem gly_set0 {l : List Gly} {i : Nat} {g : Gly} (h : l[i]? = some g) {v : Int} : setS (l.flatMap glyC) (i * 8) (.int .i64 v) = (l.set i { g with i := v }).flatMap glyC := flat_set (k := 0) gly_len (by omega) h rfl
theorem gly_set1 {l : List Gly} {i : Nat} {g : Gly} (h : l[i]? = some g) {v : Int} : setS (l.flatMap glyC) (i * 8 + 1) (.int .i64 v) = (l.set i { g with m := v }).flatMap glyC := flat_set gly_len (by omega) h rfl
theorem gly_set3 {l : List Gly} {i : Nat} {g : Gly} (h : l[i]? = some g) {v : Int} : setS (l.flatMap glyC) (i * 8 + 3) (.int .i64 v) = (l.set i { g with t := v }).flatMap glyC := flat_set gly_len (by omega) h rfl
theorem gly_set4 {l : List Gly} {i : Nat} {g : Gly} (h : l[i]? = some g) {v : Int} : setS (l.flatMap glyC) (i * 8 + 4) (.int .i64 v) = (l.set i { g with x := v }).flatMap glyC := flat_set gly_len (by omega) h rfl
theorem gly_set5 {l : List Gly} {i : Nat} {g : Gly} (h : l[i]? = some g) {v : Int} : setS (l.flatMap glyC) (i * 8 + 5) (.int .i64 v) = (l.set i { g with a := v }).flatMap glyC := flat_set gly_len (by omega) h rfl
theorem gly_lf (l : List Gly) : (l.flatMap glyC).all V.leaf = true := by
  rw [List.all_eq_true]
  intro c hc
  obtain ⟨x, _, hx⟩ := List.mem_flatMap.1 hc
  simp [glyC] at hx
  rcases hx with rfl | rfl | rfl | rfl | rfl | rfl | rfl | rfl <;> rfl
theorem gly_map (l : List Gly) : isMap (l.flatMap glyC) = false := by cases l <;> rfl
theorem gly_part (l : List Gly) (q e : Nat) : ((l.flatMap glyC).drop (q * 8)).take ((e - q) * 8) = ((l.take e).drop q).flatMap glyC := flat_part gly_len l q e
theorem gly_fl (l : List Gly) : (l.flatMap glyC).length = l.length * 8 := flat_len gly_len l
theorem gly_sum (l : List Gly) : (List.map (fun a => (glyC a).length) l).sum = l.length * 8 := by
  rw [← List.length_flatMap]; exact gly_fl l
def Chn : Int → Int → List Gly → Prop
  | a, b, [] => a = b
  | a, b, g :: l => g.f = a ∧ a < g.t ∧ Chn g.t b l
theorem Chn.len : ∀ {l : List Gly} {a b : Int}, Chn a b l → (l.length : Int) ≤ b - a
  | [], a, b, h => by have h : a = b := h; simp; omega
  | _ :: _, _, _, ⟨_, h2, h3⟩ => by have := h3.len; simp; omega
theorem Chn.le {l : List Gly} {a b : Int} (h : Chn a b l) : a ≤ b := by have := h.len; omega
theorem Chn.snoc : ∀ {l : List Gly} {a b : Int} {g : Gly}, Chn a b l → g.f = b → b < g.t → Chn a g.t (l ++ [g])
  | [], _, _, _, h, h1, h2 => ⟨h1.trans (Eq.symm h), by rw [show _ = _ from h]; exact h2, rfl⟩
  | _ :: _, _, _, _, ⟨h1, h2, h3⟩, g1, g2 => ⟨h1, h2, h3.snoc g1 g2⟩
theorem Chn.set : ∀ {l : List Gly} {a b : Int} {i : Nat} {g g' : Gly}, Chn a b l → l[i]? = some g → g'.f = g.f → g'.t = g.t → Chn a b (l.set i g')
  | [], _, _, _, _, _, _, h, _, _ => by simp at h
  | x :: l, a, b, 0, g, g', ⟨h1, h2, h3⟩, h, e1, e2 => by
    simp at h
    subst h
    exact ⟨e1.trans h1, by rw [e2]; exact h2, by rw [e2]; exact h3⟩
  | x :: l, a, b, i + 1, g, g', ⟨h1, h2, h3⟩, h, e1, e2 => ⟨h1, h2, h3.set (by simpa using h) e1 e2⟩
theorem Chn.last : ∀ {l : List Gly} {a b : Int} {g g' : Gly}, Chn a b l → l[l.length - 1]? = some g → g'.f = g.f → g.f < g'.t → Chn a g'.t (l.set (l.length - 1) g')
  | [], _, _, _, _, _, h, _, _ => by simp at h
  | [x], a, b, g, g', ⟨h1, _, _⟩, h, e1, e2 => by
    simp at h
    subst h
    exact ⟨e1.trans h1, by rw [← h1]; exact e2, rfl⟩
  | x :: y :: l, a, b, g, g', ⟨h1, h2, h3⟩, h, e1, e2 => by
    have := h3.last (l := y :: l) (g := g) (by simpa using h) e1 e2
    exact ⟨h1, h2, by simpa using this⟩
theorem Chn.get : ∀ {l : List Gly} {a b : Int} {i : Nat} {g : Gly}, Chn a b l → l[i]? = some g → a ≤ g.f ∧ g.f < g.t ∧ g.t ≤ b ∧ (i + 1 < l.length → g.t < b)
  | [], _, _, _, _, _, h => by simp at h
  | x :: l, a, b, 0, g, ⟨h1, h2, h3⟩, h => by
    simp at h
    subst h
    have := h3.len
    exact ⟨by omega, by omega, h3.le, fun hl => by simp at hl; omega⟩
  | x :: l, a, b, i + 1, g, ⟨h1, h2, h3⟩, h => by
    obtain ⟨k1, k2, k3, k4⟩ := h3.get (by simpa using h)
    exact ⟨by omega, k2, k3, fun hl => k4 (by simpa using hl)⟩
end Bi
end Go.Ab
namespace Go.Ab
theorem mapM_g {f : V → Option V} {g : V → V} : ∀ {cs : List V}, (∀ c ∈ cs, f c = some (g c)) → cs.mapM f = some (cs.map g)
  | [], _ => rfl
  | c :: cs, h => by simp [List.mapM_cons, h c (by simp), mapM_g (f := f) (cs := cs) (fun x hx => h x (by simp [hx]))]
theorem OwnC.frzG {g : V → V} {h : Heap} {lo n d k : Nat} {v : V} {cs : List V} (ho : OwnC h lo k v cs) (hn : n ≤ lo) (hk : 0 < k) (hg : ∀ c ∈ cs, Go.Ab.frz h n (d + 1) c = some (g c)) (hr : (cs.map g).all V.rf = true) :
    Go.Ab.frz h n (d + 2) v = some (.lst (chunk k (cs.length / k) (cs.map g))) := by
  rcases ho with ⟨rfl, rfl⟩ | ⟨b, m, rfl, hm, h1, hb⟩
  · simp [chunk]
  · rw [frz_sl, if_neg (by omega), hb]
    have e : List.take (m * k) cs = cs := by rw [← hm, List.take_length]
    simp only [Nat.zero_add, List.drop_zero, hm, Nat.le_refl, if_true, e, mapM_g hg, hr, Nat.mul_div_cancel _ hk]
theorem flat_congr {α β : Type} {f g : α → List β} : ∀ {l : List α}, (∀ x ∈ l, f x = g x) → l.flatMap f = l.flatMap g
  | [], _ => rfl
  | x :: l, h => by rw [List.flatMap_cons, List.flatMap_cons, h x (by simp), flat_congr fun y hy => h y (by simp [hy])]
theorem OwnC.at {h : Heap} {lo k b n : Nat} {cs : List V} (ho : OwnC h lo k (.sl b 0 n n k) cs) : lo ≤ b ∧ b < h.length ∧ blockOf h b = some cs ∧ cs.length = n * k := by
  obtain ⟨h1, h2⟩ := ho.blk (b := b) rfl
  rcases ho with ⟨h, _⟩ | ⟨b', n', hv, hn, h3, h4⟩
  · cases h
  · simp only [V.sl.injEq] at hv
    obtain ⟨rfl, _, rfl, _⟩ := hv
    exact ⟨h1, h2, h4, hn⟩
theorem Hp.rot4 {H base : Heap} {a b c d : Own} {l : List Own} (h : Hp H base (a :: b :: c :: d :: l)) : Hp H base (d :: b :: c :: l) := h.tail.perm (List.perm_middle (l₁ := [b, c]))
theorem Hp.rotE {H base : Heap} {b c d : Own} {l : List Own} (h : Hp H base (d :: b :: c :: l)) : Hp H base (c :: d :: (l ++ [b])) :=
  h.perm ((List.perm_middle (l₁ := [d, b]) (a := c) (l₂ := l)).trans (((List.perm_append_singleton b l).symm.cons d).cons c))
theorem Hp.rot3 {H base : Heap} {a b c : Own} {l : List Own} (h : Hp H base (a :: b :: c :: l)) : Hp H base (c :: a :: b :: l) := h.perm (List.perm_middle (l₁ := [a, b]))
theorem Hp.rm23 {H base : Heap} {a b c : Own} {l : List Own} (h : Hp H base (a :: b :: c :: l)) : Hp H base (a :: l) := h.drop ((((List.Sublist.refl _).cons _).cons _).cons_cons _)
namespace Bi
structure Lin where
  f : Int
  t : Int
  lv : Int
  x : Int
  y : Int
  w : Int
  a : Int
  d : Int
  h : Int
def linC (l : Lin) (v : V) : List V := [.int .i64 l.f, .int .i64 l.t, .int .i64 l.lv, .int .i64 l.x, .int .i64 l.y, .int .i64 l.w, .int .i64 l.a, .int .i64 l.d, .int .i64 l.h, v]
structure LinG where
  l : Lin
  v : V
  gs : List Gly
def linG (x : LinG) : List V := linC x.l x.v
def linO (x : LinG) : Own := (8, x.v, x.gs.flatMap glyC)
def linF (x : LinG) : List V := linC x.l (.lst (x.gs.map glyC))
theorem lin_len (x : LinG) : (linG x).length = 10 := rfl
theorem lin_frz {H base : Heap} {v : V} {L : List LinG} (d : Nat) (hh : Hp H base ((10, v, L.flatMap linG) :: L.map linO)) : Go.Ab.frz H 0 (d + 4) v = some (.lst (L.map linF)) := by
  have hv : ∀ x ∈ L, Go.Ab.frz H 0 (d + 3) x.v = some (.lst (x.gs.map glyC)) := fun x hx => by
    have ho := hh.own (linO x) (List.mem_cons_of_mem _ (List.mem_map_of_mem hx))
    exact OwnC.frzF (d := d + 1) gly_len (by omega) ho (Nat.zero_le _) (fun _ => rfl) (fun g c hc => by simp [glyC] at hc; rcases hc with rfl | rfl | rfl | rfl | rfl | rfl | rfl | rfl <;> simp)
  have hl : ∀ x ∈ L, (linG x).map (fun c => (Go.Ab.frz H 0 (d + 3) c).getD .no) = linF x := fun x hx => by
    simp [linG, linF, linC, hv x hx]
  have e : (L.flatMap linG).map (fun c => (Go.Ab.frz H 0 (d + 3) c).getD .no) = L.flatMap linF := by
    rw [List.map_flatMap]
    exact flat_congr hl
  rw [hh.head.frzG (Nat.zero_le _) (by omega) (g := fun c => (Go.Ab.frz H 0 (d + 3) c).getD .no) (d := d + 2) ?_ ?_, e, flat_len (n := 10) lin_len, Nat.mul_div_cancel _ (by omega), chunk_flat (f := linF) (n := 10) (fun _ => rfl)]
  · intro c hc
    obtain ⟨x, hx, hc⟩ := List.mem_flatMap.1 hc
    simp [linG, linC] at hc
    rcases hc with rfl | rfl | rfl | rfl | rfl | rfl | rfl | rfl | rfl | rfl <;> first | rfl | simp [hv x hx]
  · rw [e, List.all_eq_true]
    intro c hc
    obtain ⟨x, hx, hc⟩ := List.mem_flatMap.1 hc
    simp [linF, linC] at hc
    rcases hc with rfl | rfl | rfl | rfl | rfl | rfl | rfl | rfl | rfl | rfl <;> rfl
end Bi
end Go.Ab
namespace Go.Ab
open Go.Proofs
namespace Bi
attribute [local congr] wGq_congr
structure Sec where
  f : Nat
  t : Nat
  lv : Int
  ls : Option (List Int)
def secC (s : Sec) : List V := [.int .i64 s.f, .int .i64 s.t, .int .i64 s.lv, match s.ls with | none => .nils | some l => il l]
def secF (s : Sec) : List V := [.int .i64 s.f, .int .i64 s.t, .int .i64 s.lv, il (s.ls.getD [])]
def unn : V → V
  | .nils => .lst []
  | v => v
def SecOK (p : Par) (s : Sec) : Prop := s.f ≤ s.t ∧ s.t ≤ p.t.length ∧ (s.f = s.t ∧ s.ls = none ∨ s.f < s.t ∧ ∃ l, s.ls = some l ∧ RLevR ((p.t.take s.t).drop s.f) p.b l)
theorem sec_frz {h : Heap} {lo n d : Nat} {v : V} {l : List Sec} (ho : OwnC h lo 4 v (l.flatMap secC)) (hn : n ≤ lo) : Go.Ab.frz h n (d + 2) v = some (.lst (l.map secF)) := by
  have e : (l.flatMap secC).map unn = l.flatMap secF := by
    rw [List.map_flatMap]
    congr 1
    funext s
    rcases s with ⟨f, t, lv, _ | ls⟩ <;> rfl
  rw [ho.frzG hn (by omega) (g := unn) ?_ ?_, e, flat_len (n := 4) (fun _ => rfl), Nat.mul_div_cancel _ (by omega), chunk_flat (f := secF) (n := 4) (fun _ => rfl)]
  · intro c hc
    obtain ⟨s, _, hx⟩ := List.mem_flatMap.1 hc
    rcases s with ⟨f, t, lv, _ | ls⟩ <;> simp [secC] at hx <;> rcases hx with rfl | rfl | rfl | rfl <;> rfl
  · rw [e, List.all_eq_true]
    intro c hc
    obtain ⟨s, _, hx⟩ := List.mem_flatMap.1 hc
    simp [secF] at hx
    rcases hx with rfl | rfl | rfl | rfl <;> simp
section
variable {prim : FuncId → Option Prim} (d : Nat) (cfg : Cfg) (h : Heap)
set_option maxRecDepth 100000 in
set_option maxHeartbeats 8000000 in
theorem sections_ex (hp : ∀ f, Np5 f → prim f = none) (p : Par) (ht : p.t.length ≤ 2000) (B : List Int) (hB : B.length = p.t.length) (hBk : ∀ cfg h, callM md (K prim (d + 6)) cfg 56 [rl p.t] h = some (il B, h)) :
    ∃ v, (∃ l : List Sec, v = .lst (l.map secF) ∧ l.length ≤ p.t.length + 1 ∧ ∀ s ∈ l, SecOK p s ∧ (s.f < s.t → B[s.t - 1]? = some 2)) ∧ ∀ cfg h, callM md (K prim (d + 7)) cfg 34 [.agg (parC p)] h = some (v, h) := by
  refine call0e rfl (hp 34 (by decide)) Tryz.func34 rfl rfl rfl (by simp [parC]) ?_
  obtain ⟨hlf, hmp, s0, s1, s2, s3, s4, l5, t5⟩ := pslots p
  simp (disch := omega) [hlf, hmp, s0, hBk]
  have g0 : Hp [some (parC p)] [some (parC p)] [] := Hp.start
  refine wC_loop (fun m fr H => ∃ (i f : Nat) (v : V) (l : List Sec), i ≤ B.length ∧ f ≤ i ∧ m = B.length - i ∧ l.length ≤ i ∧ (∀ s ∈ l, SecOK p s ∧ (s.f < s.t → B[s.t - 1]? = some 2)) ∧ Hp H [some (parC p)] [(4, v, l.flatMap secC)] ∧
    Slots 70 [(1, .ptr 0 0), (3, v), (4, il B), (5, .int .i64 f), (6, .int .i64 i)] fr) (m := B.length) (by omega) ⟨0, 0, .nils, [], by omega, by omega, by omega, by simp, by simp, g0.nil 4, by simp⟩ ?_
  rintro m fr H ⟨i, f, v, l, hi, hf, rfl, hll, hok, hhp, hs⟩
  obtain ⟨j, rfl⟩ := hs.ex
  clear hs
  have hb0 : blockOf H 0 = some (parC p) := by rw [hhp.block (by simp)]; rfl
  by_cases hlt : i < B.length
  · have hI : (i : Int) < B.length := by omega
    simp (disch := omega) [hI, atI, -getElem?_pos]
    refine wIf_intro (fun hb => ?_) (fun hb => ?_)
    · simp (disch := omega) [hb0, s0, wrap64, -getElem?_pos]
      have hu : List.drop f (List.take (i + 1) (List.map (fun n => [V.int IntKind.i32 n]) p.t)) = List.map (fun n => [V.int IntKind.i32 n]) ((p.t.take (i + 1)).drop f) := by simp [List.map_drop, List.map_take]
      rw [hu]
      obtain ⟨u, hue⟩ : ∃ u, u = (p.t.take (i + 1)).drop f := ⟨_, rfl⟩
      rw [← hue]
      have m1 : md 57 = 3 := rfl
      have m2 : md 58 = 3 := rfl
      have hul : u.length = i + 1 - f := by rw [hue]; simp; omega
      obtain ⟨lv, hLv, hRl⟩ := rlevels_ok (prim := prim) d hp u (by omega) (by intro e; rw [e] at hul; simp at hul; omega) p.b
      have hLv' := fun cfg h => hLv cfg h [rl u, .int .i64 p.b] (by rfl)
      have hBs := fun cfg h => rbase_ok (prim := prim) (d + 2) cfg h (hp 57 (by decide)) (hp 101 (by decide)) (hp 100 (by decide)) (hp 132 (by decide)) (hp 99 (by decide)) u (by omega) p.b (args := [rl u, .int .i64 p.b]) (by rfl)
      refine wC_draw 11 (by kernel_rfl) ?_
      simp (disch := omega) [hb0, s2, hLv', hBs, m1, wrap64, -getElem?_pos]
      have hfl := flat_len (f := secC) (n := 4) (fun _ => rfl) l
      refine wS_appO (m := 1) (hhp.push _) (by simp) rfl rfl (by omega) (by omega) (by rw [hfl]; omega) (by rw [hfl]; omega) ?_
      intro v' H' hhp5
      simp (disch := omega) [wrap64, -getElem?_pos]
      refine Rnd_of (m' := B.length - (i + 1)) (by omega) ⟨i + 1, i + 1, v', l ++ [⟨f, i + 1, baseS bidi u p.b, some lv⟩], by omega, by omega, by omega, by simp; omega, ?_, by simpa [secC] using hhp5, by simp (disch := omega)⟩
      intro x hx
      rcases List.mem_append.1 hx with hx | hx
      · exact hok x hx
      · simp at hx
        subst hx
        exact ⟨⟨by simp; omega, by simp; omega, .inr ⟨by simp; omega, lv, rfl, by rw [← hue]; exact hRl⟩⟩, fun _ => by simp at hb; simp only [Nat.add_sub_cancel]; rw [atI hlt, hb]⟩
    · simp (disch := omega) [wrap64, -getElem?_pos]
      exact Rnd_of (m' := B.length - (i + 1)) (by omega) ⟨i + 1, f, v, l, by omega, by omega, by omega, by omega, hok, hhp, by simp (disch := omega)⟩
  obtain rfl : i = B.length := by omega
  have hN := fun cfg h r => newl_ok (prim := prim) (d + 3) cfg h hp r
  have m1 : md 57 = 3 := rfl
  have hBs := fun cfg h => rbase_ok (prim := prim) (d + 2) cfg h (hp 57 (by decide)) (hp 101 (by decide)) (hp 100 (by decide)) (hp 132 (by decide)) (hp 99 (by decide)) [] (by simp) p.b (args := [.nils, .int .i64 p.b]) (by rfl)
  have hfl := flat_len (f := secC) (n := 4) (fun _ => rfl) l
  by_cases hn0 : p.t = []
  · simp (disch := omega) [hb0, s0, s2, hn0, hBs, -getElem?_pos]
    refine wS_appO (m := 1) (hhp.push _) (by simp) rfl rfl (by omega) (by omega) (by rw [hfl]; omega) (by rw [hfl]; omega) ?_
    intro v' H' hhp5
    have f1 := sec_frz (h := H') (lo := 1) (n := 0) (d := 4) (v := v') (l := l ++ [⟨p.t.length, p.t.length, baseS bidi [] p.b, none⟩]) (by simpa [secC, hn0] using hhp5.head) (Nat.zero_le _)
    simp (disch := omega) [f1]
    refine ⟨l ++ [⟨p.t.length, p.t.length, baseS bidi [] p.b, none⟩], by simp, by simp; omega, fun x hx => ?_⟩
    rcases List.mem_append.1 hx with hx | hx
    · exact hok x hx
    · simp at hx
      subst hx
      exact ⟨⟨Nat.le_refl _, Nat.le_refl _, .inl ⟨rfl, rfl⟩⟩, fun h => absurd h (Nat.lt_irrefl _)⟩
  · have hpos : 0 < p.t.length := List.length_pos_iff.2 hn0
    simp +contextual (disch := first | omega | (simp; done) | (simp [Decidable.imp_iff_not_or]; done) | fail) [-wG_bool, wG_q, wGq_some, gq_true, wrap64, -getElem?_pos, hb0, s0, hN, atI, hn0]
    refine wIf_intro (fun _ => ?_) (fun _ => ?_)
    · simp (disch := omega) [hb0, s2, hBs, -getElem?_pos]
      refine wS_appO (m := 1) (hhp.push _) (by simp) rfl rfl (by omega) (by omega) (by rw [hfl]; omega) (by rw [hfl]; omega) ?_
      intro v' H' hhp5
      have f1 := sec_frz (h := H') (lo := 1) (n := 0) (d := 4) (v := v') (l := l ++ [⟨p.t.length, p.t.length, baseS bidi [] p.b, none⟩]) (by simpa [secC] using hhp5.head) (Nat.zero_le _)
      simp (disch := omega) [f1]
      refine ⟨l ++ [⟨p.t.length, p.t.length, baseS bidi [] p.b, none⟩], by simp, by simp; omega, fun x hx => ?_⟩
      rcases List.mem_append.1 hx with hx | hx
      · exact hok x hx
      · simp at hx
        subst hx
        exact ⟨⟨Nat.le_refl _, Nat.le_refl _, .inl ⟨rfl, rfl⟩⟩, fun h => absurd h (Nat.lt_irrefl _)⟩
    · have f1 := sec_frz (d := 4) hhp.head (Nat.zero_le _)
      simp (disch := omega) [f1]
      exact ⟨_, rfl, by omega, hok⟩
end
end Bi
end Go.Ab
