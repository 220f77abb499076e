/- Several texts of this proof in one. -/
import Derived.Test.YtoappddifbgegaaGreatPaGen
import Derived.Test.YtoappddifbgegaaGreatPaRef2
import Derived.Test.YtoappddifbgegaaGreatPaRef3
set_option linter.all false
namespace Go.Ab
open Go.Proofs
namespace Bi
structure Spn where
  f : Int
  t : Int
  n : Int
  z : Int
structure Par where
  t : List Int
  s : List Spn
  b : Int
  a : Int
  w : Int
def Cov : Int → Int → List Spn → Prop
  | a, b, [] => a = b
  | a, b, s :: l => s.f = a ∧ a < s.t ∧ Cov s.t b l
structure ParOK (p : Par) (n fonts : Nat) : Prop where
  len : p.t.length ≤ n
  b : -1 ≤ p.b ∧ p.b ≤ 1
  a : 0 ≤ p.a ∧ p.a ≤ 2
  w : 0 ≤ p.w ∧ p.w ≤ 1048576
  sp : ∀ s ∈ p.s, 0 ≤ s.n ∧ s.n < fonts ∧ 1 ≤ s.z ∧ s.z ≤ 40
  cov : (p.t = [] ∧ ∃ s, p.s = [s] ∧ s.f = 0 ∧ s.t = 0) ∨ (p.t ≠ [] ∧ Cov 0 p.t.length p.s)
  sl : p.s.length ≤ n + 1
section
variable {prim : FuncId → Option Prim} (d : Nat) (cfg : Cfg) (h : Heap)
end
end Bi
end Go.Ab
namespace Go.Ab
theorem Hp.call {H H2 base : Heap} {os os2 : List Own} (h : Hp H base os) (h2 : Hp H2 H os2) : Hp H2 base (os2 ++ os) := by
  refine ⟨?_, Nat.le_trans h.le h2.le, fun o ho => ?_, List.pairwise_append.2 ⟨h2.dj, h.dj, fun a ha b hb c hc hc2 => ?_⟩⟩
  · have := congrArg (List.take base.length) h2.take
    rw [List.take_take, Nat.min_eq_left h.le, h.take] at this
    exact this
  · rcases List.mem_append.1 ho with ho | ho
    · exact (h2.own o ho).lo h.le
    · exact (h.own o ho).of_blk fun b hb => h2.block ((h.own o ho).blk hb).2
  · have h3 := ((h2.own a ha).blk hc).1
    have h4 := ((h.own b hb).blk hc2).2
    omega
theorem Hp.call1 {H H2 base : Heap} {os : List Own} {o : Own} (h : Hp H base os) (h2 : Hp H2 H [o]) : Hp H2 base (o :: os) := h.call h2
def kMidQ [I : Hid (List V → Heap → Prop)] [Q : Hid Kont] (e : Ex) (fr : List V) (h : Heap) : Prop :=
  match e with
  | .normal => @Mid I fr h
  | e => Q.val e fr h
@[simp] theorem kMidQ_normal {I : List V → Heap → Prop} {Q : Kont} {fr : List V} {h : Heap} : @kMidQ ⟨I⟩ ⟨Q⟩ .normal fr h ↔ @Mid ⟨I⟩ fr h := Iff.rfl
@[simp] theorem kMidQ_exit {I : List V → Heap → Prop} {Q : Kont} {i : Nat} {fr : List V} {h : Heap} : @kMidQ ⟨I⟩ ⟨Q⟩ (.exit i) fr h ↔ Q (.exit i) fr h := Iff.rfl
@[simp] theorem kMidQ_ret {I : List V → Heap → Prop} {Q : Kont} {fr : List V} {h : Heap} : @kMidQ ⟨I⟩ ⟨Q⟩ .ret fr h ↔ Q .ret fr h := Iff.rfl
section
variable {P : Program} {md : FuncId → Nat} {call : Callf} {cfg : Cfg} {n : Nat}
end
section
variable {P : Program} {md : FuncId → Nat} {call : Callf} {cfg : Cfg} {n : Nat}
end
end Go.Ab
namespace Go.Ab
open Go.Proofs
namespace Bi
attribute [local congr] wGq_congr
def cmpS (a c : Int) : Int := if a < c then -1 else if c < a then 1 else 0
def pairS (a b c e : Int) : Int := if cmpS a c = 0 then cmpS b e else cmpS a c
theorem pairS_neg {a b c e : Int} : 0 ≤ pairS a b c e ↔ ¬ (a < c ∨ a = c ∧ b < e) := by
  unfold pairS cmpS
  repeat' split
  all_goals omega
section
variable {prim : FuncId → Option Prim} (d : Nat) (cfg : Cfg) (h : Heap)
theorem within_ok (hp : ∀ f, Np5 f → prim f = none) (x a b : Int) : callM md (K prim (d + 1)) cfg 109 [.int .i64 x, .int .i64 a, .int .i64 b] h = some (.bool (decide (a ≤ x) && decide (x ≤ b)), h) := by
  refine call0 rfl (hp 109 (by decide)) Tryz.func109 rfl rfl rfl (by simp) ?_
  simp +contextual (disch := first | omega | (simp; done) | (simp [Decidable.imp_iff_not_or]; done) | fail) [-wG_bool, wG_q, wG_q2, wGq_some, wGq_true, wGq_false, gq_true, gq_false, pickV_qA, pickV_qO]
theorem isr_ok (hp : ∀ f, Np5 f → prim f = none) (x : Int) : callM md (K prim (d + 1)) cfg 110 [.int .i32 x] h = some (.bool (decide (0 ≤ x) && decide (x ≤ 1114111)), h) := by
  refine call0 rfl (hp 110 (by decide)) Tryz.func110 rfl rfl rfl (by simp) ?_
  simp +contextual (disch := first | omega | (simp; done) | (simp [Decidable.imp_iff_not_or]; done) | fail) [-wG_bool, wG_q, wG_q2, wGq_some, wGq_true, wGq_false, gq_true, gq_false, pickV_qA, pickV_qO]
theorem nan_ok (hp : ∀ f, Np5 f → prim f = none) (x : Int) : callM md (K prim (d + 1)) cfg 244 [.int .i32 x] h = some (.bool false, h) := by
  refine call0 rfl (hp 244 (by decide)) Tryz.func244 rfl rfl rfl (by simp) ?_
  simp
theorem compare_ok (hp : ∀ f, Np5 f → prim f = none) (x y : Int) : callM md (K prim (d + 2)) cfg 181 [.int .i32 x, .int .i32 y] h = some (.int .i64 (cmpS x y), h) := by
  have hn := fun cfg h x => nan_ok (prim := prim) d cfg h hp x
  refine call0 rfl (hp 181 (by decide)) Tryz.func181 rfl rfl rfl (by simp) ?_
  unfold cmpS
  by_cases h1 : x < y
  · simp [hn, h1]
  · by_cases h2 : y < x
    · simp [hn, h1, h2]
    · simp [hn, h1, h2]
theorem or_ok (hp : ∀ f, Np5 f → prim f = none) (a b : Int) (H : Heap) (args : List V) (ha : args.mapM (frzA H) = some [il [a, b]]) : callM md (K prim (d + 1)) cfg 180 args H = some (.int .i64 (if a = 0 then b else a), H) := by
  refine call3 rfl (hp 180 (by decide)) Tryz.func180 rfl rfl rfl ha ?_
  simp
  refine wC_loop (fun m fr H => ∃ (i : Nat), i ≤ 2 ∧ m = 2 - i ∧ H = [] ∧ (0 < i → a = 0) ∧ (1 < i → b = 0) ∧ Slots 18 [(3, .int .i64 0), (6, il [a, b]), (7, .int .i64 2), (8, .int .i64 i)] fr) (m := 2) (by omega) ⟨0, by omega, by omega, rfl, by simp, by simp, by simp⟩ ?_
  rintro m fr H ⟨i, hi, rfl, rfl, h1, h2, hs⟩
  obtain ⟨j, rfl⟩ := hs.ex
  clear hs
  rcases i with _ | _ | i
  · by_cases hz : a = 0
    · simp (disch := omega) [hz, wrap64]
      exact Rnd_of (m' := 1) (by omega) ⟨1, by omega, by omega, rfl, fun _ => hz, by simp, by simp [hz]⟩
    · simp (disch := omega) [hz]
  · have ha0 := h1 (by omega)
    by_cases hz : b = 0
    · simp (disch := omega) [hz, wrap64]
      exact Rnd_of (m' := 0) (by omega) ⟨2, by omega, by omega, rfl, fun _ => ha0, fun _ => hz, by simp [hz]⟩
    · simp (disch := omega) [hz, ha0]
  · obtain rfl : i = 0 := by omega
    have ha0 := h1 (by omega)
    have hb0 := h2 (by omega)
    simp [ha0, hb0]
theorem pair_ok (hp : ∀ f, Np5 f → prim f = none) (a b c e : Int) : callM md (K prim (d + 3)) cfg 111 [.int .i32 a, .int .i32 b, .int .i32 c, .int .i32 e] h = some (.int .i64 (pairS a b c e), h) := by
  have hc := fun cfg h x y => compare_ok (prim := prim) d cfg h hp x y
  have ho := fun cfg a b H args ha => or_ok (prim := prim) (d + 1) cfg hp a b H args ha
  refine call0 rfl (hp 111 (by decide)) Tryz.func111 rfl rfl rfl (by simp) ?_
  have ho' := fun cfg => ho cfg (cmpS a c) (cmpS b e) [some [.int .i64 (cmpS a c), .int .i64 (cmpS b e)]] [.sl 0 0 2 2 1] rfl
  simp [hc, ho']
  rfl
end
end Bi
end Go.Ab
