/- Several texts of this proof in one. -/
import Derived.Test.YtamjkkpdopiofaaGreatPaGen
import Derived.Test.YtamjkkpdopiofaaGreatPaRef3
/- The generator: lists of fonts, paragraphs. -/
namespace Go.Ab
open Go.Proofs
namespace Bi
/-- A span: from, to, font, size. -/
structure Spn where
  f : Int
  t : Int
  n : Int
  z : Int
def spnC (s : Spn) : List V := [.int .i64 s.f, .int .i64 s.t, .int .i64 s.n, .int .i64 s.z]
/-- A paragraph. -/
structure Par where
  t : List Int
  s : List Spn
  b : Int
  a : Int
  w : Int
def parC (p : Par) : List V := [rl p.t, .lst (p.s.map spnC), .int .i64 p.b, .int .i64 p.a, .int .i64 p.w]
/-- Spans that lie one behind the other, from a to b. -/
def Cov : Int → Int → List Spn → Prop
  | a, b, [] => a = b
  | a, b, s :: l => s.f = a ∧ a < s.t ∧ Cov s.t b l
theorem Cov.snoc : ∀ {l : List Spn} {a b : Int} {s : Spn}, Cov a b l → s.f = b → b < s.t → Cov a s.t (l ++ [s])
  | [], _, _, _, h, h1, h2 => ⟨h1.trans h.symm, by rw [h]; exact h2, rfl⟩
  | _ :: _, _, _, _, ⟨h1, h2, h3⟩, g1, g2 => ⟨h1, h2, h3.snoc g1 g2⟩
structure ParOK (p : Par) (n fonts : Nat) : Prop where
  len : p.t.length ≤ n
  b : -1 ≤ p.b ∧ p.b ≤ 1
  a : 0 ≤ p.a ∧ p.a ≤ 2
  w : 0 ≤ p.w ∧ p.w ≤ 1048576
  sp : ∀ s ∈ p.s, 0 ≤ s.n ∧ s.n < fonts ∧ 1 ≤ s.z ∧ s.z ≤ 40
  cov : (p.t = [] ∧ ∃ s, p.s = [s] ∧ s.f = 0 ∧ s.t = 0) ∨ (p.t ≠ [] ∧ Cov 0 p.t.length p.s)
  sl : p.s.length ≤ n + 1
section
variable {prim : FuncId → Option Prim} (d : Nat) (cfg : Cfg) (h : Heap)
theorem hk_at {h : Heap} {b : Nat} {L : List Int} {k : Nat} (i : Nat) {X : Heap} {Y : List V} (hX : X[i]? = some (some Y)) (hm : isMap Y = false) : blockOf (hk h b L k ++ X) (h.length + i) = some Y := by
  rw [blockOf, List.getElem?_append_right (by simp), hk_len, Nat.add_sub_cancel_left, hX]
  simp [hm]
theorem hk_put {h : Heap} {b : Nat} {L : List Int} {k : Nat} (i : Nat) {X : Heap} (Y : Option (List V)) : (hk h b L k ++ X).set (h.length + i) Y = hk h b L k ++ X.set i Y := by
  rw [List.set_append_right _ _ (by simp), hk_len, Nat.add_sub_cancel_left]
def wids : List Int := [0, 1, 10, 20, 30, 40, 60, 100, 200, 400, 1000, 1048576]
end
end Bi
end Go.Ab
/- Heaps of a function: what a call hands back of its own; slices of structs read and written. -/
namespace Go.Ab
theorem Hp.call {H H2 base : Heap} {os os2 : List Own} (h : Hp H base os) (h2 : Hp H2 H os2) : Hp H2 base (os2 ++ os) := by
  refine ⟨?_, Nat.le_trans h.le h2.le, fun o ho => ?_, List.pairwise_append.2 ⟨h2.dj, h.dj, fun a ha b hb c hc hc2 => ?_⟩⟩
  · have := congrArg (List.take base.length) h2.take
    rw [List.take_take, Nat.min_eq_left h.le, h.take] at this
    exact this
  · rcases List.mem_append.1 ho with ho | ho
    · exact (h2.own o ho).lo h.le
    · exact (h.own o ho).of_blk fun b hb => h2.block ((h.own o ho).blk hb).2
  · have h3 := ((h2.own a ha).blk hc).1
    have h4 := ((h.own b hb).blk hc2).2
    omega
theorem Hp.call1 {H H2 base : Heap} {os : List Own} {o : Own} (h : Hp H base os) (h2 : Hp H2 H [o]) : Hp H2 base (o :: os) := h.call h2
theorem flat_at {α : Type} {f : α → List V} {n k : Nat} (hf : ∀ x, (f x).length = n) (hk : k < n) : ∀ (l : List α) (i : Nat), (l.flatMap f)[i * n + k]? = (l[i]?).bind fun x => (f x)[k]?
  | [], i => by simp
  | x :: l, 0 => by
    rw [List.flatMap_cons, List.getElem?_append_left (by rw [hf]; omega)]
    simp
  | x :: l, i + 1 => by
    rw [List.flatMap_cons, List.getElem?_append_right (by rw [hf, Nat.add_mul]; omega), hf]
    have e : (i + 1) * n + k - n = i * n + k := by rw [Nat.add_mul]; omega
    rw [e, flat_at hf hk l i]
    simp
theorem flat_slot {α : Type} {f : α → List V} {n k : Nat} (hf : ∀ x, (f x).length = n) (hk : k < n) {l : List α} {i : Nat} {x : α} (hx : l[i]? = some x) : slot (l.flatMap f) (i * n + k) = slot (f x) k := by
  rw [slot, flat_at hf hk, hx]; rfl
theorem flat_slot0 {α : Type} {f : α → List V} {n : Nat} (hf : ∀ x, (f x).length = n) (hk : 0 < n) {l : List α} {i : Nat} {x : α} (hx : l[i]? = some x) : slot (l.flatMap f) (i * n) = slot (f x) 0 := flat_slot (k := 0) hf hk hx
theorem flat_set {α : Type} {f : α → List V} {n k : Nat} (hf : ∀ x, (f x).length = n) (hk : k < n) {v : V} : ∀ {l : List α} {i : Nat} {x x' : α}, l[i]? = some x → f x' = setS (f x) k v → setS (l.flatMap f) (i * n + k) v = (l.set i x').flatMap f
  | [], i, _, _, h, _ => by simp at h
  | y :: l, 0, x, x', h, e => by
    simp at h
    subst h
    rw [setS, List.flatMap_cons, List.set_append_left _ _ (by rw [hf]; omega), List.set_cons_zero, List.flatMap_cons, e]
    simp [setS]
  | y :: l, i + 1, x, x', h, e => by
    have ih := flat_set hf hk (l := l) (i := i) (by simpa using h) e
    rw [setS] at ih ⊢
    rw [List.flatMap_cons, List.set_append_right _ _ (by rw [hf, Nat.add_mul]; omega), hf]
    have e2 : (i + 1) * n + k - n = i * n + k := by rw [Nat.add_mul]; omega
    rw [e2, ih, List.set_cons_succ, List.flatMap_cons]
theorem flat_take {α : Type} {f : α → List V} {n : Nat} (hf : ∀ x, (f x).length = n) {l : List α} {i : Nat} {x : α} (hx : l[i]? = some x) : ((l.flatMap f).drop (i * n)).take n = f x := by
  have hl := (List.getElem?_eq_some_iff.1 hx).1
  apply List.ext_getElem?
  intro k
  by_cases hk : k < n
  · rw [List.getElem?_take_of_lt hk, List.getElem?_drop, flat_at hf hk, hx]; rfl
  · rw [List.getElem?_eq_none (by simp; omega), List.getElem?_eq_none (by rw [hf]; omega)]
theorem flat_drop {α : Type} {f : α → List V} {n : Nat} (hf : ∀ x, (f x).length = n) : ∀ (l : List α) (i : Nat), (l.flatMap f).drop (i * n) = (l.drop i).flatMap f
  | [], i => by simp
  | x :: l, 0 => by simp
  | x :: l, i + 1 => by
    rw [List.flatMap_cons, List.drop_append, hf, List.drop_of_length_le (by rw [hf, Nat.add_mul]; omega), List.nil_append]
    have e : (i + 1) * n - n = i * n := by rw [Nat.add_mul]; omega
    rw [e, flat_drop hf l i, List.drop_succ_cons]
theorem flat_takeN {α : Type} {f : α → List V} {n : Nat} (hf : ∀ x, (f x).length = n) : ∀ (l : List α) (i : Nat), (l.flatMap f).take (i * n) = (l.take i).flatMap f
  | [], i => by simp
  | x :: l, 0 => by simp
  | x :: l, i + 1 => by
    rw [List.flatMap_cons, List.take_append, hf, List.take_of_length_le (by rw [hf, Nat.add_mul]; omega)]
    have e : (i + 1) * n - n = i * n := by rw [Nat.add_mul]; omega
    rw [e, flat_takeN hf l i, List.take_succ_cons, List.flatMap_cons]
theorem flat_part {α : Type} {f : α → List V} {n : Nat} (hf : ∀ x, (f x).length = n) (l : List α) (q e : Nat) : ((l.flatMap f).drop (q * n)).take ((e - q) * n) = ((l.take e).drop q).flatMap f := by
  rw [flat_drop hf, flat_takeN hf, List.drop_take]
theorem OwnC.lenF {P : Program} {t e : TypeId} {α : Type} {f : α → List V} {n : Nat} (hf : ∀ x, (f x).length = n) (hn : 0 < n) (hu : P.underlying t = some (.slice e)) {h : Heap} {lo : Nat} {v : V} {l : List α} (ho : OwnC h lo n v (l.flatMap f)) : lenV P t v = some (.int .i64 l.length) := by
  rw [ho.len hu hn, flat_len hf, Nat.mul_div_cancel _ hn]
theorem OwnC.posF {α : Type} {f : α → List V} {n : Nat} (hf : ∀ x, (f x).length = n) (hn : 0 < n) {h : Heap} {lo : Nat} {v : V} {l : List α} (ho : OwnC h lo n v (l.flatMap f)) (hl : 0 < l.length) : ∃ b, v = .sl b 0 l.length l.length n ∧ lo ≤ b ∧ b < h.length ∧ blockOf h b = some (l.flatMap f) := by
  have hfl := flat_len hf l
  obtain ⟨b, m, rfl, hm, h1, h2, h3⟩ := ho.pos (by intro e; rw [e] at hfl; have h0 := Nat.mul_pos hl hn; rw [← hfl] at h0; exact absurd h0 (by simp))
  have : m = l.length := by
    rw [hfl] at hm
    exact (Nat.eq_of_mul_eq_mul_right hn hm).symm
  subst this
  exact ⟨b, rfl, h1, h2, h3⟩
/-- What holds at a place where ways come together, other ways leaving it. -/
def kMidQ [I : Hid (List V → Heap → Prop)] [Q : Hid Kont] (e : Ex) (fr : List V) (h : Heap) : Prop :=
  match e with
  | .normal => @Mid I fr h
  | e => Q.val e fr h
@[simp] theorem kMidQ_normal {I : List V → Heap → Prop} {Q : Kont} {fr : List V} {h : Heap} : @kMidQ ⟨I⟩ ⟨Q⟩ .normal fr h ↔ @Mid ⟨I⟩ fr h := Iff.rfl
@[simp] theorem kMidQ_exit {I : List V → Heap → Prop} {Q : Kont} {i : Nat} {fr : List V} {h : Heap} : @kMidQ ⟨I⟩ ⟨Q⟩ (.exit i) fr h ↔ Q (.exit i) fr h := Iff.rfl
@[simp] theorem kMidQ_ret {I : List V → Heap → Prop} {Q : Kont} {fr : List V} {h : Heap} : @kMidQ ⟨I⟩ ⟨Q⟩ .ret fr h ↔ Q .ret fr h := Iff.rfl
section
variable {P : Program} {md : FuncId → Nat} {call : Callf} {cfg : Cfg} {n : Nat}
theorem wC_midQ {c b : Code} {fr : List V} {h : Heap} {Q : Kont} (I : List V → Heap → Prop) (h1 : @wC P md call cfg n ⟨c⟩ fr h ⟨@kMidQ ⟨I⟩ ⟨Q⟩⟩) (h2 : ∀ fr h, I fr h → @wC P md call cfg n ⟨b⟩ fr h ⟨Q⟩) :
    @wC P md call cfg n ⟨c⟩ fr h ⟨@kSeq P md call cfg n ⟨b⟩ ⟨Q⟩⟩ := by
  refine wC_mono h1 fun e fr h hm => ?_
  cases e with
  | normal => exact h2 fr h hm
  | exit i => exact hm
  | ret => exact hm
/-- The same where the way has been named a sequence. -/
theorem wC_seqQ {c b : Code} {fr : List V} {h : Heap} {Q : Kont} (I : List V → Heap → Prop) (h1 : @wC P md call cfg n ⟨c⟩ fr h ⟨@kMidQ ⟨I⟩ ⟨Q⟩⟩) (h2 : ∀ fr h, I fr h → @wC P md call cfg n ⟨b⟩ fr h ⟨Q⟩) :
    @wC P md call cfg n ⟨.seq c b⟩ fr h ⟨Q⟩ := by
  rw [wC_seq]
  exact wC_midQ I h1 h2
end
theorem blk_setA {H : Heap} {b : Nat} (hb : b < H.length) {X : List V} (hm : isMap X = false) (Y : Heap) : blockOf (H.set b (some X) ++ Y) b = some X := by
  rw [blockOf_left (by simpa using hb)]
  simp [blockOf, hb, hm]
theorem blk_setN {H : Heap} {b c : Nat} (hc : c < H.length) (h : b ≠ c) (X : Option (List V)) (Y : Heap) : blockOf (H.set b X ++ Y) c = blockOf H c := by
  rw [blockOf_left (by simpa using hc)]
  simp [blockOf, h]
theorem set_setA {H : Heap} {b : Nat} (hb : b < H.length) (X Z : Option (List V)) (Y : Heap) : (H.set b X ++ Y).set b Z = H.set b Z ++ Y := by
  rw [List.set_append_left _ _ (by simpa using hb), List.set_set]
theorem blk_setE {H : Heap} {b : Nat} (X : Option (List V)) {Y : List V} (hm : isMap Y = false) (Z : Heap) : blockOf (H.set b X ++ some Y :: Z) H.length = some Y := by
  simp [blockOf, hm]
section
variable {P : Program} {md : FuncId → Nat} {call : Callf} {cfg : Cfg} {n : Nat}
theorem appD_none {h base : Heap} {os : List Own} {d : V} {cs : List V} {k y : Nat} (ho : Hp h base ((k, d, cs) :: os)) (hlo : cfg.lo ≤ base.length) (hk : 0 < k) (hsz : cs.length / k * y ≤ 1099511627776) (hlen : cs.length / k ≤ 1099511627776) :
    appD cfg h k y d 0 [] = some (d, h) := by
  rcases ho.head with ⟨rfl, rfl⟩ | ⟨b, n, rfl, hn, h1, hb⟩
  · simp [appD, roomy]
  · rw [hn, Nat.mul_div_cancel _ hk] at hsz hlen
    have hw : cfg.wr b = true := by simp only [Cfg.wr, Bool.or_eq_true, decide_eq_true_eq]; left; omega
    have hr : roomy n y = true := by simp [roomy]; omega
    simp [appD, hr, storeCellsV, hb, hw, hn, set_same hb, putAt]
/-- append to the first of the own slices, of any number. -/
theorem wS_appG {dst : Option Tmp} {fr : List V} {ops : Array Oper} {rest : List Oper} {Q : KontO} {h base : Heap} {os : List Own} {d : V} {cs new : List V} {k m y : Nat} (ho : Hp h base ((k, d, cs) :: os)) (hlo : cfg.lo ≤ base.length)
    (hnew : new.length = m * k) (hmn : isMap new = false) (hk : 0 < k) (hsz : (cs.length / k + m) * y ≤ 1099511627776) (hlen : cs.length / k + m ≤ 1099511627776)
    (H : ∀ d' h', Hp h' base ((k, d', cs ++ new) :: os) → @wO P md call cfg ⟨ops⟩ ⟨rest⟩ (put fr dst d') h' ⟨Q⟩) :
    @wS P md call cfg ⟨dst⟩ ⟨fr⟩ (appD cfg h k y d m new) ⟨ops⟩ ⟨rest⟩ ⟨Q⟩ := by
  rcases Nat.eq_zero_or_pos m with rfl | hm
  · have e : new = [] := List.eq_nil_of_length_eq_zero (by simpa using hnew)
    subst e
    rw [appD_none ho hlo hk (by simpa using hsz) (by simpa using hlen), wS_some]
    exact H d h (by simpa using ho)
  · exact wS_appO ho hlo hnew hmn hm hk hsz hlen H
end
end Go.Ab
/- The check of a paragraph, of the program and of the reference: one plain function. -/
namespace Go.Ab
open Go.Proofs
namespace Bi
attribute [local congr] wGq_congr
def cmpS (a c : Int) : Int := if a < c then -1 else if c < a then 1 else 0
def pairS (a b c e : Int) : Int := if cmpS a c = 0 then cmpS b e else cmpS a c
theorem pairS_neg {a b c e : Int} : 0 ≤ pairS a b c e ↔ ¬ (a < c ∨ a = c ∧ b < e) := by
  unfold pairS cmpS
  repeat' split
  all_goals omega
section
variable {prim : FuncId → Option Prim} (d : Nat) (cfg : Cfg) (h : Heap)
theorem within_ok (hp : ∀ f, Np5 f → prim f = none) (x a b : Int) : callM md (K prim (d + 1)) cfg 36 [.int .i64 x, .int .i64 a, .int .i64 b] h = some (.bool (decide (a ≤ x) && decide (x ≤ b)), h) := by
  refine call0 rfl (hp 36 (by decide)) Tryz.func36 rfl rfl rfl (by simp) ?_
  simp +contextual (disch := first | omega | (simp; done) | (simp [Decidable.imp_iff_not_or]; done) | fail) [-wG_bool, wG_q, wGq_some, gq_true, pickV_qA]
theorem isr_ok (hp : ∀ f, Np5 f → prim f = none) (x : Int) : callM md (K prim (d + 1)) cfg 37 [.int .i32 x] h = some (.bool (decide (0 ≤ x) && decide (x ≤ 1114111)), h) := by
  refine call0 rfl (hp 37 (by decide)) Tryz.func37 rfl rfl rfl (by simp) ?_
  simp +contextual (disch := first | omega | (simp; done) | (simp [Decidable.imp_iff_not_or]; done) | fail) [-wG_bool, wG_q, wGq_some, gq_true, pickV_qA]
theorem nan_ok (hp : ∀ f, Np5 f → prim f = none) (x : Int) : callM md (K prim (d + 1)) cfg 69 [.int .i32 x] h = some (.bool false, h) := by
  refine call0 rfl (hp 69 (by decide)) Tryz.func69 rfl rfl rfl (by simp) ?_
  simp
theorem compare_ok (hp : ∀ f, Np5 f → prim f = none) (x y : Int) : callM md (K prim (d + 2)) cfg 53 [.int .i32 x, .int .i32 y] h = some (.int .i64 (cmpS x y), h) := by
  have hn := fun cfg h x => nan_ok (prim := prim) d cfg h hp x
  refine call0 rfl (hp 53 (by decide)) Tryz.func53 rfl rfl rfl (by simp) ?_
  unfold cmpS
  by_cases h1 : x < y
  · simp [hn, h1]
  · by_cases h2 : y < x
    · simp [hn, h1, h2]
    · simp [hn, h1, h2]
theorem or_ok (hp : ∀ f, Np5 f → prim f = none) (a b : Int) (H : Heap) (args : List V) (ha : args.mapM (frzA H) = some [il [a, b]]) : callM md (K prim (d + 1)) cfg 52 args H = some (.int .i64 (if a = 0 then b else a), H) := by
  refine call3 rfl (hp 52 (by decide)) Tryz.func52 rfl rfl rfl ha ?_
  simp
  refine wC_loop (fun m fr H => ∃ (i : Nat), i ≤ 2 ∧ m = 2 - i ∧ H = [] ∧ (0 < i → a = 0) ∧ (1 < i → b = 0) ∧ Slots 18 [(3, .int .i64 0), (6, il [a, b]), (7, .int .i64 2), (8, .int .i64 i)] fr) (m := 2) (by omega) ⟨0, by omega, by omega, rfl, by simp, by simp, by simp⟩ ?_
  rintro m fr H ⟨i, hi, rfl, rfl, h1, h2, hs⟩
  obtain ⟨j, rfl⟩ := hs.ex
  clear hs
  rcases i with _ | _ | i
  · by_cases hz : a = 0
    · simp (disch := omega) [hz, wrap64]
      exact Rnd_of (m' := 1) (by omega) ⟨1, by omega, by omega, rfl, fun _ => hz, by simp, by simp [hz]⟩
    · simp (disch := omega) [hz]
  · have ha0 := h1 (by omega)
    by_cases hz : b = 0
    · simp (disch := omega) [hz, wrap64]
      exact Rnd_of (m' := 0) (by omega) ⟨2, by omega, by omega, rfl, fun _ => ha0, fun _ => hz, by simp [hz]⟩
    · simp (disch := omega) [hz, ha0]
  · obtain rfl : i = 0 := by omega
    have ha0 := h1 (by omega)
    have hb0 := h2 (by omega)
    simp [ha0, hb0]
theorem pair_ok (hp : ∀ f, Np5 f → prim f = none) (a b c e : Int) : callM md (K prim (d + 3)) cfg 38 [.int .i32 a, .int .i32 b, .int .i32 c, .int .i32 e] h = some (.int .i64 (pairS a b c e), h) := by
  have hc := fun cfg h x y => compare_ok (prim := prim) d cfg h hp x y
  have ho := fun cfg a b H args ha => or_ok (prim := prim) (d + 1) cfg hp a b H args ha
  refine call0 rfl (hp 38 (by decide)) Tryz.func38 rfl rfl rfl (by simp) ?_
  have ho' := fun cfg => ho cfg (cmpS a c) (cmpS b e) [some [.int .i64 (cmpS a c), .int .i64 (cmpS b e)]] [.sl 0 0 2 2 1] rfl
  simp [hc, ho']
  rfl
end
end Bi
end Go.Ab
