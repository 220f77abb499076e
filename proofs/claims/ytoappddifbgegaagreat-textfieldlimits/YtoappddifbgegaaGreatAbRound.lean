/- Several texts of this proof in one. -/
import Derived.Test.YtoappddifbgegaaGreatPaRef
import Derived.Test.YtoappddifbgegaaGreatPbCl
import Derived.Test.YtoappddifbgegaaGreatPbT
import Derived.Test.YtoappddifbgegaaGreatAbW7
import Derived.Test.YtoappddifbgegaaGreatAbW3
import Derived.Test.YtoappddifbgegaaGreatAbDraw3
import Derived.RangeFuncIn
import Derived.RangeFuncCalls
import Derived.TacticsIn
import Derived.LoopNIn
set_option linter.all false
namespace Go.Ab
open Go.Proofs
namespace Bi
attribute [local congr] wGq_congr
def nlT (r : Int) : Bool := decide (cLn r = 1) || decide (cLn r = 2) || decide (cLn r = 3)
theorem cluT_mem {c : List Int} {x : Int} : ∀ q, x ∈ cluT c q → 0 ≤ x ∧ x ≤ q
  | 0, h => by simp [cluT] at h; omega
  | q + 1, h => by
    rw [cluT] at h
    split at h
    · rcases List.mem_append.1 h with h | h
      · have := cluT_mem q h; omega
      · simp at h; omega
    · have := cluT_mem q h; omega
theorem cluS_mem {t : List Int} {x : Int} (h : x ∈ cluS t) : 0 ≤ x ∧ x ≤ t.length := by
  unfold cluS at h
  split at h
  · simp at h
  · rcases List.mem_append.1 h with h | h
    · have := cluT_mem _ h; omega
    · simp at h; omega
theorem cluS_len {t : List Int} : (cluS t).length ≤ t.length + 1 := by
  unfold cluS
  split
  · simp
  · have := cluT_len (c := t.map cBr) (t.length - 1)
    have : 0 < t.length := List.length_pos_iff.2 ‹_›
    simp; omega
def stpS (t : List Int) (a : Int) : Bool := decide (a = 0) || decide (a ∈ cluS t)
section
variable {prim : FuncId → Option Prim} (d : Nat)
theorem tnl_ok (hp : ∀ f, Np5 f → prim f = none) (cfg : Cfg) (h : Heap) (r : Int) : callM md (K prim (d + 4)) cfg 31 [.int .i32 r] h = some (.bool (nlT r), h) := by
  refine call0 rfl (hp 31 (by decide)) Tryz.func31 rfl rfl rfl (by simp) ?_
  have hL := fun cfg h r => cln_ok (prim := prim) d hp cfg h r
  by_cases h1 : cLn r = 1
  · simp (disch := omega) [hL, h1, nlT]
  by_cases h2 : cLn r = 2
  · simp (disch := omega) [hL, h2, nlT]
  by_cases h3 : cLn r = 3 <;> simp (disch := omega) [hL, h1, h2, h3, nlT]
theorem rnl_ok (hp : ∀ f, Np5 f → prim f = none) (cfg : Cfg) (h : Heap) (r : Int) : callM md (K prim (d + 3)) cfg 21 [.int .i32 r] h = some (.bool (nlT r), h) := by
  refine call0 rfl (hp 21 (by decide)) Tryz.func21 rfl rfl rfl (by simp) ?_
  have hL := fun cfg h => rline_ok (prim := prim) d cfg h hp r
  rw [(cls_eq r).2.1] at hL
  simp +contextual (disch := first | omega | (simp; done) | (simp [Decidable.imp_iff_not_or]; done) | fail) [-wG_bool, wG_q, wG_q2, wGq_some, wGq_true, wGq_false, gq_true, gq_false, pickV_qA, pickV_qO, hL, nlT]
theorem idx_ok (hp : ∀ f, Np5 f → prim f = none) (l : List Int) (hl : l.length ≤ 5000) (n : Int) : ∃ r, (∃ k : Int, r = .int .i64 k ∧ (0 ≤ k ↔ n ∈ l)) ∧ ∀ cfg h, callM md (K prim (d + 1)) cfg 114 [il l, .int .i64 n] h = some (r, h) := by
  refine call0e rfl (hp 114 (by decide)) Tryz.func114 rfl rfl rfl (by simp) ?_
  simp
  refine wC_loop (fun m fr H => ∃ i : Nat, i ≤ l.length ∧ m = l.length - i ∧ n ∉ l.take i ∧ Slots 19 [(0, il l), (1, .int .i64 n), (7, .int .i64 l.length), (8, .int .i64 i)] fr) (m := l.length) (by omega) ⟨0, by omega, by omega, by simp, by simp⟩ ?_
  rintro m fr H ⟨i, hi, rfl, hn, hs⟩
  obtain ⟨j, rfl⟩ := hs.ex
  clear hs
  by_cases hlt : i < l.length
  · have hI : (i : Int) < l.length := by omega
    obtain ⟨x, hx⟩ : ∃ x, l[i]? = some x := ⟨_, List.getElem?_eq_getElem hlt⟩
    by_cases hxn : n = x
    · have hm : n ∈ l := hxn ▸ List.mem_of_getElem? hx
      subst hxn
      simp (disch := omega) [hI, hx, hm, -getElem?_pos]
    · simp (disch := omega) [hI, hx, hxn, wrap64, -getElem?_pos]
      refine Rnd_of (m' := l.length - (i + 1)) (by omega) ⟨i + 1, by omega, rfl, ?_, by simp (disch := omega)⟩
      rw [List.take_add_one, hx]
      simp only [Option.toList_some, List.mem_append, List.mem_singleton]
      rintro (h1 | h1)
      · exact hn h1
      · exact hxn h1
  · obtain rfl : i = l.length := by omega
    rw [List.take_length] at hn
    simp (disch := omega) [hn]
theorem con_ok (hp : ∀ f, Np5 f → prim f = none) (l : List Int) (hl : l.length ≤ 5000) (n : Int) (cfg : Cfg) (h : Heap) : callM md (K prim (d + 2)) cfg 71 [il l, .int .i64 n] h = some (.bool (decide (n ∈ l)), h) := by
  refine call0 rfl (hp 71 (by decide)) Tryz.func71 rfl rfl rfl (by simp) ?_
  obtain ⟨_, ⟨k, rfl, hk⟩, hI⟩ := idx_ok (prim := prim) d hp l hl n
  simp [hI, hk]
theorem ixf_ok (hp : ∀ f, Np5 f → prim f = none) (l : List Int) (hl : l.length ≤ 5000) : ∃ r, (∃ k : Int, r = .int .i64 k ∧ (0 ≤ k ↔ l.any nlT = true)) ∧ ∀ cfg h, callM md (K prim (d + 5)) cfg 69 [rl l, .func (.func 31) [] []] h = some (r, h) := by
  refine call0e rfl (hp 69 (by decide)) Tryz.func69 rfl rfl rfl (by simp; rfl) ?_
  have hN := fun cfg h r => tnl_ok (prim := prim) d hp cfg h r
  simp
  refine wC_loop (fun m fr H => ∃ i : Nat, i ≤ l.length ∧ m = l.length - i ∧ (l.take i).any nlT = false ∧ Slots 19 [(0, rl l), (1, .func (.func 31) [] []), (7, .int .i64 l.length), (8, .int .i64 i)] fr) (m := l.length) (by omega) ⟨0, by omega, by omega, by simp, by simp⟩ ?_
  rintro m fr H ⟨i, hi, rfl, hn, hs⟩
  obtain ⟨j, rfl⟩ := hs.ex
  clear hs
  by_cases hlt : i < l.length
  · have hI : (i : Int) < l.length := by omega
    obtain ⟨x, hx⟩ : ∃ x, l[i]? = some x := ⟨_, List.getElem?_eq_getElem hlt⟩
    cases hxn : nlT x with
    | true =>
      have hm : l.any nlT = true := List.any_eq_true.2 ⟨x, List.mem_of_getElem? hx, hxn⟩
      simp (disch := omega) [hI, hx, hN, hxn, hm, -getElem?_pos]
    | false =>
      simp (disch := omega) [hI, hx, hN, hxn, wrap64, -getElem?_pos]
      refine Rnd_of (m' := l.length - (i + 1)) (by omega) ⟨i + 1, by omega, rfl, ?_, by simp (disch := omega)⟩
      rw [List.take_add_one, hx, List.any_append, hn]
      simp [hxn]
  · obtain rfl : i = l.length := by omega
    rw [List.take_length] at hn
    simp (disch := omega) [hn]
theorem cnf_ok (hp : ∀ f, Np5 f → prim f = none) (l : List Int) (hl : l.length ≤ 5000) (cfg : Cfg) (h : Heap) : callM md (K prim (d + 6)) cfg 30 [rl l, .func (.func 31) [] []] h = some (.bool (l.any nlT), h) := by
  refine call0 rfl (hp 30 (by decide)) Tryz.func30 rfl rfl rfl (by simp; rfl) ?_
  obtain ⟨_, ⟨k, rfl, hk⟩, hI⟩ := ixf_ok (prim := prim) d hp l hl
  cases ha : l.any nlT
  · rw [ha] at hk
    have : ¬ 0 ≤ k := fun h => by simpa using hk.1 h
    simp [hI, this]
  · rw [ha] at hk
    have : 0 ≤ k := hk.2 rfl
    simp [hI, this]
theorem stop_ok (hp : ∀ f, Np5 f → prim f = none) (t : List Int) (ht : t.length ≤ 2000) (a : Int) (cfg : Cfg) (h : Heap) : callM md (K prim (d + 5)) cfg 32 [rl t, .int .i64 a] h = some (.bool (stpS t a), h) := by
  refine call0 rfl (hp 32 (by decide)) Tryz.func32 rfl rfl rfl (by simp) ?_
  have hC := fun cfg h => clusE_ok (prim := prim) d hp t ht cfg h
  have hl := cluS_len (t := t)
  have hI := fun cfg h => con_ok (prim := prim) (d + 2) hp (cluS t) (by omega) a cfg h
  have hm : a ∈ cluS t → 0 ≤ a ∧ a ≤ t.length := cluS_mem
  unfold stpS
  by_cases h0 : a = 0
  · simp [h0]
  by_cases h1 : 0 < a
  · by_cases h2 : a ≤ t.length
    · simp [h0, h1, h2, hC, hI]
    · have : ¬ a ∈ cluS t := fun h => h2 (hm h).2
      simp [h0, h1, h2, this]
  · have : ¬ a ∈ cluS t := fun h => by have := (hm h).1; omega
    simp [h0, h1, this]
end
end Bi
end Go.Ab
namespace Go.Ab
open Go.Proofs
namespace Bi
attribute [local congr] wGq_congr
structure Edt where
  t : List Int
  r : List (Int × Int)
  an : Int
  fo : Int
  bf : Bool
  ac : Bool
  at' : Int
  ln : Int
  ot : List Int
  rr : List (Int × Int)
  mj : Int
  ca : Int
  cl : List (List V)
  dn : List (List V)
  un : List (List V)
  br : Bool
  sv : Int
  go : Int
  pe : Int
def cmpC (e : Edt) : List V := [.bool e.ac, .int .i64 e.at', .int .i64 e.ln, rl e.ot, ml e.rr, .int .i64 e.mj, .int .i64 e.ca, .lst e.cl]
def edC (e : Edt) : List V := [rl e.t, ml e.r, .int .i64 e.an, .int .i64 e.fo, .bool e.bf, .bool e.ac, .int .i64 e.at', .int .i64 e.ln, rl e.ot, ml e.rr, .int .i64 e.mj, .int .i64 e.ca, .lst e.cl, .lst e.dn, .lst e.un, .bool e.br, .int .i64 e.sv, .int .i64 e.go, .int .i64 e.pe]
theorem ed_sl (e : Edt) : (edC e).length = 19 ∧ isMap (edC e) = false ∧ (∀ x ∈ edC e, x.leaf = true) ∧ (edC e).take 19 = edC e ∧ slot (edC e) 0 = some (rl e.t) ∧ slot (edC e) 1 = some (ml e.r) ∧ slot (edC e) 2 = some (.int .i64 e.an) ∧ slot (edC e) 3 = some (.int .i64 e.fo) ∧
    slot (edC e) 5 = some (.bool e.ac) ∧ slot (edC e) 6 = some (.int .i64 e.at') ∧ slot (edC e) 7 = some (.int .i64 e.ln) ∧ slot (edC e) 8 = some (rl e.ot) ∧ slot (edC e) 9 = some (ml e.rr) ∧ slot (edC e) 10 = some (.int .i64 e.mj) ∧ slot (edC e) 17 = some (.int .i64 e.go) ∧ slot (edC e) 18 = some (.int .i64 e.pe) ∧
    ((edC e).drop 5).take 8 = cmpC e ∧ (edC e).take 2 = [rl e.t, ml e.r] ∧ ((edC e).drop 8).take 2 = [rl e.ot, ml e.rr] :=
  ⟨rfl, rfl, by simp [edC], rfl, rfl, rfl, rfl, rfl, rfl, rfl, rfl, rfl, rfl, rfl, rfl, rfl, rfl, rfl, rfl⟩
def liS (e : Edt) (n : Int) : Bool := decide (0 ≤ e.at' ∧ 0 ≤ e.ln ∧ e.at' ≤ n ∧ e.ln ≤ n - e.at')
def chkB (e : Edt) (c : ECf) : Bool := decide (valB e.t e.r ≠ 0) || decide (c.mo < e.t.length) || (!c.ml && e.t.any nlT) || !stpS e.t e.an || !stpS e.t e.fo ||
  (e.ac && (!liS e e.t.length || decide (valB e.ot e.rr ≠ 0) || !(decide (0 ≤ e.mj ∧ e.mj ≤ 15)))) || decide (e.go < -1 ∨ 2097152 < e.go) || decide (e.pe < -1 ∨ 15 < e.pe)
def EdOK (e : Edt) : Prop := e.t.length ≤ 2000 ∧ e.r.length ≤ 2000 ∧ e.ot.length ≤ 2000 ∧ e.rr.length ≤ 2000
section
variable {prim : FuncId → Option Prim} (d : Nat)
theorem lies_ok (hp : ∀ f, Np5 f → prim f = none) (e : Edt) (n : Int) (hn : 0 ≤ n ∧ n ≤ 2000) (cfg : Cfg) (h : Heap) : callM md (K prim (d + 1)) cfg 33 [.agg (cmpC e), .int .i64 n] h = some (.bool (liS e n), h) := by
  refine call0 rfl (hp 33 (by decide)) Tryz.func33 rfl rfl rfl (by simp [cmpC]) ?_
  unfold liS
  by_cases h1 : 0 ≤ e.at'
  · by_cases h2 : 0 ≤ e.ln
    · by_cases h3 : e.at' ≤ n
      · simp (disch := omega) [cmpC, h1, h2, h3, wrap64]
      · simp [cmpC, h1, h2, h3]
    · simp [cmpC, h1, h2]
  · simp [cmpC, h1]
set_option maxRecDepth 100000 in
set_option maxHeartbeats 8000000 in
theorem chT_ok (hp : ∀ f, Np5 f → prim f = none) (c : ECf) (e : Edt) (hE : EdOK e) (cfg : Cfg) (h : Heap) :
    callM md (K prim (d + 7)) cfg 8 [.agg (edC e), .agg (ecfC c)] h = some (.int .i64 (if chkB e c = true then 12 else 0), h) := by
  refine call0 rfl (hp 8 (by decide)) Tryz.func8 rfl rfl rfl (by simp [ecfC, edC]) ?_
  obtain ⟨q1, q2, q3, q4⟩ := hE
  have hV := fun cfg h => validate_ok (prim := prim) (d + 3) cfg h (hp 29 (by decide)) (hp 67 (by decide)) (hp 112 (by decide)) (hp 68 (by decide)) e.t e.r q1 q2
  have hW := fun cfg h => validate_ok (prim := prim) (d + 3) cfg h (hp 29 (by decide)) (hp 67 (by decide)) (hp 112 (by decide)) (hp 68 (by decide)) e.ot e.rr q3 q4
  have hN := fun cfg h => cnf_ok (prim := prim) d hp e.t (by omega) cfg h
  have hS := fun cfg h a => stop_ok (prim := prim) (d + 1) hp e.t q1 a cfg h
  have hL := fun cfg h => lies_ok (prim := prim) (d + 5) hp e e.t.length (by omega) cfg h
  have hB := fun cfg h x l r => btw_ok (prim := prim) (d + 5) hp cfg h x l r
  obtain ⟨l9, hmp, hlf, t9, s0, s2, s3, s4, s5, s6, s7, s8⟩ := ecf_sl c
  obtain ⟨el, em, ef, et, e0, e1, e2, e3, e5, e6, e7, e8, e9, e10, e17, e18, ec, eb, eo⟩ := ed_sl e
  have hlq := eq_true hlf
  have elq := eq_true ef
  obtain ⟨v1, hv1⟩ : ∃ v, valB e.t e.r = v := ⟨_, rfl⟩
  obtain ⟨v2, hv2⟩ : ∃ v, valB e.ot e.rr = v := ⟨_, rfl⟩
  obtain ⟨b1, hb1⟩ : ∃ v, e.t.any nlT = v := ⟨_, rfl⟩
  obtain ⟨b2, hb2⟩ : ∃ v, stpS e.t e.an = v := ⟨_, rfl⟩
  obtain ⟨b3, hb3⟩ : ∃ v, stpS e.t e.fo = v := ⟨_, rfl⟩
  obtain ⟨b4, hb4⟩ : ∃ v, liS e e.t.length = v := ⟨_, rfl⟩
  simp +contextual (disch := first | omega | (simp; done) | (simp [Decidable.imp_iff_not_or]; done) | fail) [-wG_bool, wG_q, wG_q2, wGq_some, wGq_true, wGq_false, gq_true, gq_false, pickV_qA, pickV_qO, wrap64, -getElem?_pos, hmp, s0, s2, hlq, elq, em, el, et, e0, e1, e2, e3, e5, e6, e7, e8, e9, e10, e17, e18, ec, eb, eo, hV, hW, hN, hS, hL, hB, hv1, hv2, hb1, hb2, hb3, hb4]
  have hcE : chkB e c = (decide (v1 ≠ 0) || decide (c.mo < e.t.length) || (!c.ml && b1) || !b2 || !b3 || (e.ac && (!b4 || decide (v2 ≠ 0) || !(decide (0 ≤ e.mj ∧ e.mj ≤ 15)))) || decide (e.go < -1 ∨ 2097152 < e.go) || decide (e.pe < -1 ∨ 15 < e.pe)) := by
    unfold chkB
    rw [hv1, hv2, hb1, hb2, hb3, hb4]
  rw [hcE]
  refine wIf_intro (fun hc0 => ?_) (fun hc0 => ?_)
  · rw [if_pos (by grind)]
    simp
  simp +contextual (disch := first | omega | (simp; done) | (simp [Decidable.imp_iff_not_or]; done) | fail) [-wG_bool, wG_q, wG_q2, wGq_some, wGq_true, wGq_false, gq_true, gq_false, pickV_qA, pickV_qO, wrap64, -getElem?_pos, hmp, s0, s2, hlq, elq, em, el, et, e0, e1, e2, e3, e5, e6, e7, e8, e9, e10, e17, e18, ec, eb, eo, hV, hW, hN, hS, hL, hB, hv1, hv2, hb1, hb2, hb3, hb4]
  refine wIf_intro (fun hc1 => ?_) (fun hc1 => ?_)
  · rw [if_pos (by grind)]
    simp
  simp +contextual (disch := first | omega | (simp; done) | (simp [Decidable.imp_iff_not_or]; done) | fail) [-wG_bool, wG_q, wG_q2, wGq_some, wGq_true, wGq_false, gq_true, gq_false, pickV_qA, pickV_qO, wrap64, -getElem?_pos, hmp, s0, s2, hlq, elq, em, el, et, e0, e1, e2, e3, e5, e6, e7, e8, e9, e10, e17, e18, ec, eb, eo, hV, hW, hN, hS, hL, hB, hv1, hv2, hb1, hb2, hb3, hb4]
  refine wIf_intro (fun hc2 => ?_) (fun hc2 => ?_)
  · rw [if_pos (by grind)]
    simp
  simp +contextual (disch := first | omega | (simp; done) | (simp [Decidable.imp_iff_not_or]; done) | fail) [-wG_bool, wG_q, wG_q2, wGq_some, wGq_true, wGq_false, gq_true, gq_false, pickV_qA, pickV_qO, wrap64, -getElem?_pos, hmp, s0, s2, hlq, elq, em, el, et, e0, e1, e2, e3, e5, e6, e7, e8, e9, e10, e17, e18, ec, eb, eo, hV, hW, hN, hS, hL, hB, hv1, hv2, hb1, hb2, hb3, hb4]
  refine wIf_intro (fun hc3 => ?_) (fun hc3 => ?_)
  · rw [if_pos (by grind)]
    simp
  rw [if_neg (by grind)]
  simp
end
end Bi
end Go.Ab
namespace Go.Ab
open Go.Proofs
namespace Bi
structure GOK (m : List Int) (r : List (Int × Int)) : Prop where
  last : r.getLast?.map (·.2) = m.getLast?
  sum : sumL r = m.length
  pos : ∀ x ∈ r, 1 ≤ x.1
  mem : ∀ x ∈ r, x.2 ∈ m
  al : alikeL r = false
  len : r.length ≤ m.length
section
variable {prim : FuncId → Option Prim} (d : Nat) (cfg : Cfg) (h : Heap)
end
end Bi
end Go.Ab
namespace Go.Ab
def cloneP (base : Prim) : Prim := fun cfg args h => match args with
  | [.lst []] => some (.lst [], h)
  | _ => base cfg args h
theorem no_live1 {x : Nat} (hl : live [none] x) : False := by
  obtain ⟨cs, hc⟩ := hl
  cases x with
  | zero => simp at hc
  | succ x => simp at hc
theorem cloneP_ok {P : Program} {f : FuncId} {base : Prim} (hb : PrimOK P f base) (h1 : base ⟨0, [], 0⟩ [.nils] [] = some (.nils, [])) {b2 k : Nat} {h2' : Heap} (h2 : base ⟨0, [], 0⟩ [.sl 0 0 0 0 k] [none] = some (.sl b2 0 0 0 k, h2')) : PrimOK P f (cloneP base) := by
  intro cfg args h r h' hx
  unfold cloneP at hx
  split at hx
  · simp only [Option.some.injEq, Prod.mk.injEq] at hx
    obtain ⟨rfl, rfl⟩ := hx
    obtain ⟨_, hfn, hs1⟩ := hb _ _ _ _ _ h1
    obtain ⟨_, _, hs2⟩ := hb _ _ _ _ _ h2
    refine ⟨.refl _ _, hfn, fun m w vs hr hp => ?_⟩
    have hl : vs.size = 1 := hp.1
    obtain ⟨v, rfl⟩ : ∃ v, vs = #[v] := by
      obtain ⟨l⟩ := vs
      match l, hl with
      | [v], _ => exact ⟨v, rfl⟩
    have hv := hp.2 0 (.lst []) v rfl rfl
    have hcase : ∃ a rc, v = .slice a 0 rc ∧ (a = none → rc = 0) := by
      generalize hg : ([] : List (List V)) = l at hv
      cases hv with
      | lst0 a rc ha => exact ⟨a, rc, rfl, ha⟩
      | lst rv hi hrc hk hc hf hr' => subst hg; exact ⟨_, _, rfl, fun h => by cases h⟩
    obtain ⟨a, rc, rfl, ha⟩ := hcase
    cases a with
    | none =>
      have h0 := ha rfl
      subst h0
      refine (hs1 m w _ (rel_empty hr) ⟨rfl, fun i c u hc hu => ?_⟩).mono ?_
      · rcases i with _ | i
        · simp at hc hu; subst hc hu; exact .nils
        · simp at hc
      · rintro e w' ⟨u, he, m', ev, r', hu⟩
        obtain ⟨ev', rl'⟩ := kept_empty hr ev
        cases hu
        exact ⟨_, he, m, ev', rl', .lst0 _ _ (fun _ => rfl)⟩
    | some a =>
      refine (hs2 m w _ ⟨fun _ _ h _ => (no_live1 h).elim, hr.zl, fun _ _ _ h => (no_live1 h).elim, fun x cs _ h _ => (no_live1 ⟨cs, h⟩).elim⟩ ⟨rfl, fun i c u hc hu => ?_⟩).mono ?_
      · rcases i with _ | i
        · simp at hc hu
          subst hc hu
          exact .sl (by simp) (Nat.zero_le _) (Nat.zero_le _) (fun h => (no_live1 h).elim)
        · simp at hc
      · rintro e w' ⟨u, he, m', ev, r', hu⟩
        have ev0 : Evo m [] w m' h2' w' := ⟨ev.zeq, Nat.zero_le _, fun x hx _ => absurd hx (by simp), fun x b hl hb => by
          rcases ev.own x b hl hb with ⟨y, hy, _⟩ | hge
          · exact (no_live1 hy).elim
          · exact .inr hge, fun b hb _ => ev.frame b hb fun x hl => (no_live1 hl).elim, ev.size, ev.rs, ev.os, ev.tape, ev.output⟩
        obtain ⟨ev', rl'⟩ := kept_empty hr ev0
        cases hu
        exact ⟨_, he, m, ev', rl', .lst0 _ _ (fun h => by cases h)⟩
  · exact hb _ _ _ _ _ hx
theorem cloneP_ne {base : Prim} {cfg : Cfg} {xs : List (List V)} {h : Heap} (hx : xs ≠ []) : cloneP base cfg [.lst xs] h = base cfg [.lst xs] h := by
  unfold cloneP
  split
  · rename_i h; simp at h; exact absurd h hx
  · rfl
end Go.Ab
namespace Go.Ab
open Go.Proofs
namespace Bi
attribute [local congr] wGq_congr
def spS (c : ECf) (r : Int) : Int := if c.ml = false ∧ nlT r = true then 32 else r
def lstLe (m : Int) (l : List Int) : Int := l.foldl (fun a x => if x ≤ m then x else a) 0
def fitS (t : List Int) (m : Int) : Int := if (t.length : Int) ≤ m then t.length else lstLe m (cluS t)
theorem lstLe_snoc (m : Int) (l : List Int) (x : Int) : lstLe m (l ++ [x]) = if x ≤ m then x else lstLe m l := by simp [lstLe]
theorem lstLe_rng (m n : Int) (l : List Int) (h : ∀ x ∈ l, 0 ≤ x ∧ x ≤ n) (hn : 0 ≤ n) : 0 ≤ lstLe m l ∧ lstLe m l ≤ n := by
  have key : ∀ (l : List Int) (a : Int), (∀ x ∈ l, 0 ≤ x ∧ x ≤ n) → 0 ≤ a ∧ a ≤ n → 0 ≤ l.foldl (fun a x => if x ≤ m then x else a) a ∧ l.foldl (fun a x => if x ≤ m then x else a) a ≤ n := by
    intro l
    induction l with
    | nil => intro a _ ha; exact ha
    | cons x l ih =>
      intro a h ha
      refine ih _ (fun y hy => h y (List.mem_cons_of_mem _ hy)) ?_
      dsimp only
      split
      · exact h x List.mem_cons_self
      · exact ha
  exact key l 0 h ⟨Int.le_refl _, hn⟩
theorem fitS_rng (t : List Int) (m : Int) : 0 ≤ fitS t m ∧ fitS t m ≤ t.length := by
  unfold fitS
  split
  · omega
  · exact lstLe_rng m t.length _ (fun x hx => cluS_mem hx) (by omega)
def spw (f : Int → Int) (t : List Int) (i : Nat) : List Int := (t.take i).map f ++ t.drop i
theorem spw_len {f : Int → Int} {t : List Int} {i : Nat} : (spw f t i).length = t.length := by simp [spw]; omega
theorem spw_at {f : Int → Int} {t : List Int} {i : Nat} {x : Int} (hx : t[i]? = some x) : (spw f t i)[i]? = some x := by
  have hl := (List.getElem?_eq_some_iff.1 hx).1
  rw [spw, List.getElem?_append_right (by simp; omega)]
  simp [show min i t.length = i by omega, hx]
theorem spw_set {f : Int → Int} {t : List Int} {i : Nat} {x : Int} (hx : t[i]? = some x) : (spw f t i).set i (f x) = spw f t (i + 1) := by
  have hl := (List.getElem?_eq_some_iff.1 hx).1
  have hd : t.drop i = x :: t.drop (i + 1) := by rw [List.drop_eq_getElem_cons hl]; congr 1; exact (List.getElem?_eq_some_iff.1 hx).2
  rw [spw, spw, List.set_append_right _ _ (by simp; omega), hd, List.take_add_one, hx]
  simp [show min i t.length = i by omega]
theorem spw_same {f : Int → Int} {t : List Int} {i : Nat} {x : Int} (hx : t[i]? = some x) (hf : f x = x) : spw f t (i + 1) = spw f t i := by
  rw [← spw_set hx, hf]
  have hl := (List.getElem?_eq_some_iff.1 (spw_at (f := f) hx)).1
  have := (List.getElem?_eq_some_iff.1 (spw_at (f := f) hx)).2
  conv => lhs; rw [← this]
  exact List.set_getElem_self hl
theorem spw_all {f : Int → Int} {t : List Int} : spw f t t.length = t.map f := by simp [spw]
theorem spw_zero {f : Int → Int} {t : List Int} : spw f t 0 = t := by simp [spw]
noncomputable def clR : Prim := fun cfg args h => callN Tryz.prog md (fun _ => none) 10000 30 cfg 61 args h
section
variable {prim : FuncId → Option Prim} (d : Nat)
theorem cloneR_ok (hC : prim 61 = some (cloneP clR)) (t : List Int) (ht : t.length ≤ 2000) (cfg : Cfg) (h : Heap) (hlo : cfg.lo ≤ h.length) :
    callM md (K prim (d + 1)) cfg 61 [rl t] h = some (if t = [] then (.lst [], h) else (.sl (h.length + 1) 0 t.length t.length 1, h ++ [none, some (t.map (V.int .i32))])) := by
  have hm : md 61 = 2 := rfl
  have e1 : callM md (K prim (d + 1)) cfg 61 [rl t] h = cloneP clR cfg [rl t] h := by
    simp only [callM, hm]
    simp only [K, callN, hC]
  rw [e1]
  by_cases h0 : t = []
  · subst h0
    rfl
  rw [cloneP_ne (by simpa using h0), if_neg h0]
  have hpos : 0 < t.length := List.length_pos_iff.2 h0
  obtain ⟨r', h', h1, rfl, rfl⟩ := callN_of (prim := fun _ => none) (md := md) (n := 10000) (d := 29) (cfg := cfg) (args := [rl t]) (h := h) (R := fun r H => r = .sl (h.length + 1) 0 t.length t.length 1 ∧ H = h ++ [none, some (t.map (V.int .i32))]) rfl Tryz.func61 rfl rfl rfl (by
    obtain ⟨x, u, rfl⟩ := List.exists_cons_of_ne_nil h0
    have hnl : binV Tryz.prog .eql 25 (rl (x :: u)) .nils = some (.bool false) := by kernel_rfl
    simp only [List.length_cons] at ht
    simp (disch := omega) [hnl]
    rw [appD_grow (cs := []) (by simp [blockOf, isMap]) (wr_lo hlo) (by omega) (by omega) (by omega) (by simp), wS_some]
    simp)
  exact h1
set_option maxHeartbeats 4000000 in
theorem spc_ok (hp : ∀ f, Np5 f → prim f = none) (hC : prim 61 = some (cloneP clR)) (c : ECf) (t : List Int) (ht : t.length ≤ 2000) (cfg : Cfg) (h : Heap) :
    callM md (K prim (d + 5)) cfg 37 [rl t, .agg (ecfC c)] h = some (rl (t.map (spS c)), h) := by
  refine call0 rfl (hp 37 (by decide)) Tryz.func37 rfl rfl rfl (by simp [ecfC]) ?_
  have hK := cloneR_ok (prim := prim) (d + 3) hC t ht ⟨0, [], 0⟩ [some (ecfC c)] (by simp)
  have hN := fun cfg h r => tnl_ok (prim := prim) d hp cfg h r
  obtain ⟨l9, hmp, hlf, t9, s0, s2, s3, s4, s5, s6, s7, s8⟩ := ecf_sl c
  have hlq := eq_true hlf
  by_cases h0 : t = []
  · subst h0
    rw [if_pos rfl] at hK
    simp [hlq, hmp, hK]
    refine wC_loop (fun m fr H => m = 0 ∧ Slots 29 [(5, .lst []), (10, .lst []), (11, .int .i64 0), (12, .int .i64 0)] fr) (m := 0) (by omega) ⟨rfl, by simp⟩ ?_
    rintro m fr H ⟨rfl, hs⟩
    obtain ⟨j, rfl⟩ := hs.ex
    clear hs
    simp
  rw [if_neg h0] at hK
  have hpos : 0 < t.length := List.length_pos_iff.2 h0
  simp [hlq, hmp] at hK
  simp [hlq, hmp, hK]
  refine wC_loop (fun m fr H => ∃ i : Nat, i ≤ t.length ∧ m = t.length - i ∧ H = [some (ecfC c), none, some ((spw (spS c) t i).map (V.int .i32))] ∧
    Slots 29 [(3, .ptr 0 0), (5, .sl 2 0 t.length t.length 1), (10, .sl 2 0 t.length t.length 1), (11, .int .i64 t.length), (12, .int .i64 i)] fr) (m := t.length) (by omega) ⟨0, by omega, by omega, by rw [spw_zero], by simp⟩ ?_
  rintro m fr H ⟨i, hi, rfl, rfl, hs⟩
  obtain ⟨j, rfl⟩ := hs.ex
  clear hs
  by_cases hlt : i < t.length
  · have hI : (i : Int) < t.length := by omega
    obtain ⟨x, hx⟩ : ∃ x, t[i]? = some x := ⟨_, List.getElem?_eq_getElem hlt⟩
    have hx' := spw_at (f := spS c) hx
    have hxl : i + 1 ≤ (spw (spS c) t i).length := by rw [spw_len]; omega
    simp +contextual (disch := first | omega | (simp; done) | (simp [Decidable.imp_iff_not_or]; done) | fail) [-wG_bool, wG_q, wG_q2, wGq_some, wGq_true, wGq_false, gq_true, gq_false, pickV_qA, pickV_qO, wrap64, -getElem?_pos, hI, hx', s0, hmp, hN]
    refine wIf_intro (fun hb => ?_) (fun hb => ?_)
    · have hf : spS c x = 32 := if_pos (by simpa using hb)
      have hst := spw_set (f := spS c) hx
      rw [hf] at hst
      simp (disch := omega) [hxl, wrap64, -List.map_set]
      rw [hst]
      exact Rnd_of (m' := t.length - (i + 1)) (by omega) ⟨i + 1, by omega, rfl, rfl, by simp⟩
    · have hf : spS c x = x := if_neg (by simpa using hb)
      simp (disch := omega) [wrap64]
      exact Rnd_of (m' := t.length - (i + 1)) (by omega) ⟨i + 1, by omega, rfl, by rw [spw_same hx hf], by simp⟩
  · obtain rfl : i = t.length := by omega
    rw [spw_all]
    have hbn : blockOf [some (ecfC c), none, some ((t.map (spS c)).map (V.int .i32))] 2 = some ((t.map (spS c)).map (V.int .i32)) := by
      have : isMap ((t.map (spS c)).map (V.int .i32)) = false := by cases t <;> rfl
      simp [blockOf, this, -List.map_map]
    have f1 := frz_ints (n := 0) (d := 4) (len := t.length) (cap := t.length) hbn (by omega) (by simp)
    simp (disch := omega) [-List.map_map]
    exact f1
theorem fit_ok (hp : ∀ f, Np5 f → prim f = none) (t : List Int) (ht : t.length ≤ 2000) (m : Int) (cfg : Cfg) (h : Heap) :
    callM md (K prim (d + 5)) cfg 38 [rl t, .int .i64 m] h = some (.int .i64 (fitS t m), h) := by
  refine call0 rfl (hp 38 (by decide)) Tryz.func38 rfl rfl rfl (by simp) ?_
  have hC := fun cfg h => clusE_ok (prim := prim) d hp t ht cfg h
  by_cases hle : (t.length : Int) ≤ m
  · simp [hle, fitS]
  have hf : fitS t m = lstLe m (cluS t) := if_neg hle
  rw [hf]
  have hl := cluS_len (t := t)
  simp [hle, hC]
  generalize cluS t = L at *
  refine wC_loop (fun q fr H => ∃ i : Nat, i ≤ L.length ∧ q = L.length - i ∧ Slots 27 [(1, .int .i64 m), (5, .int .i64 (lstLe m (L.take i))), (15, il L), (16, .int .i64 L.length), (17, .int .i64 i)] fr) (m := L.length) (by omega) ⟨0, by omega, by omega, by simp [lstLe]⟩ ?_
  rintro q fr H ⟨i, hi, rfl, hs⟩
  obtain ⟨j, rfl⟩ := hs.ex
  clear hs
  by_cases hlt : i < L.length
  · have hI : (i : Int) < L.length := by omega
    obtain ⟨x, hx⟩ : ∃ x, L[i]? = some x := ⟨_, List.getElem?_eq_getElem hlt⟩
    have hn : lstLe m (L.take (i + 1)) = if x ≤ m then x else lstLe m (L.take i) := by rw [List.take_add_one, hx]; exact lstLe_snoc m _ x
    by_cases hxm : x ≤ m
    · rw [if_pos hxm] at hn
      simp (disch := omega) [hI, hx, hxm, wrap64, -getElem?_pos]
      exact Rnd_of (m' := L.length - (i + 1)) (by omega) ⟨i + 1, by omega, rfl, by rw [hn]; simp⟩
    · rw [if_neg hxm] at hn
      simp (disch := omega) [hI, hx, hxm, wrap64, -getElem?_pos]
      exact Rnd_of (m' := L.length - (i + 1)) (by omega) ⟨i + 1, by omega, rfl, by rw [hn]; simp⟩
  · obtain rfl : i = L.length := by omega
    rw [List.take_length]
    simp
end
end Bi
end Go.Ab
namespace Go.Ab
open Go.Proofs
namespace Bi
attribute [local congr] wGq_congr
def edN (t : List Int) (r : List (Int × Int)) (n g : Int) : List V := [rl t, ml r, .int .i64 n, .int .i64 n, .bool false, .bool false, .int .i64 0, .int .i64 0, .lst [], .lst [], .int .i64 0, .int .i64 0, .lst [], .lst [], .lst [], .bool false, .int .i64 0, .int .i64 g, .int .i64 g]
section
variable {prim : FuncId → Option Prim} (d : Nat)
theorem same_ok (hp : ∀ f, Np5 f → prim f = none) (t : List Int) (ht : t.length ≤ 2000) (cfg : Cfg) (h : Heap) : callM md (K prim (d + 1)) cfg 20 [rl t, rl t] h = some (.bool true, h) := by
  refine call0 rfl (hp 20 (by decide)) Tryz.func20 rfl rfl rfl (by simp) ?_
  simp
  refine wC_loop (fun m fr H => ∃ i : Nat, i ≤ t.length ∧ m = t.length - i ∧ Slots 26 [(0, rl t), (1, rl t), (5, .int .i64 i)] fr) (m := t.length) (by omega) ⟨0, by omega, by omega, by simp⟩ ?_
  rintro m fr H ⟨i, hi, rfl, hs⟩
  obtain ⟨j, rfl⟩ := hs.ex
  clear hs
  by_cases hlt : i < t.length
  · have hI : (i : Int) < t.length := by omega
    obtain ⟨x, hx⟩ : ∃ x, t[i]? = some x := ⟨_, List.getElem?_eq_getElem hlt⟩
    simp (disch := omega) [hI]
    refine wC_draw 8 (by kernel_rfl) ?_
    simp (disch := omega) [hx, wrap64, -getElem?_pos]
    exact Rnd_of (m' := t.length - (i + 1)) (by omega) ⟨i + 1, by omega, rfl, by simp⟩
  · simp [hlt]
end
end Bi
end Go.Ab
namespace Go.Ab
open Go.Proofs
namespace Bi
attribute [local congr] wGq_congr
def rnZ (T : List Int) : List (Int × Int) := if T = [] then [] else [((T.length : Int), 0)]
def plnS (T : List Int) : V := if T.all scal = true then .tup [.agg [rl T, ml (rnZ T)], .int .i64 0] else .tup [.agg [.lst [], .lst []], .int .i64 1]
def edZ : List V := [.nils, .nils, .int .i64 0, .int .i64 0, .bool false, .bool false, .int .i64 0, .int .i64 0, .nils, .nils, .int .i64 0, .int .i64 0, .nils, .nils, .nils, .bool false, .int .i64 0, .int .i64 0, .int .i64 0]
section
variable {prim : FuncId → Option Prim} (d : Nat)
theorem add_ok (hp : ∀ f, Np5 f → prim f = none) (T : List Int) (hT : T.length ≤ 2000) (h0 : T ≠ []) :
    callM md (K prim (d + 1)) ⟨0, [], 0⟩ 76 [.ptr 1 0, rl T, .int .i64 0] [some [.nils, .nils], some [.nils, .nils]] = some (.tup [], [some [.nils, .nils], some [.sl 2 0 T.length T.length 1, .sl 4 0 1 1 2], some (T.map (V.int .i32)), some [.int .i64 T.length, .int .i64 0], some [.int .i64 T.length, .int .i64 0]]) := by
  refine call2 rfl (hp 76 (by decide)) Tryz.func76 rfl rfl rfl ?_
  have hpos : 0 < T.length := List.length_pos_iff.2 h0
  have hn : ¬ T.length = 0 := by omega
  simp [hn, h0]
  rw [appD_nils (by omega) (by omega) hpos, wS_some]
  simp
  rw [appD_nils (by omega) (by omega) (by omega), wS_some]
  simp
theorem pln_ok (hp : ∀ f, Np5 f → prim f = none) (T : List Int) (hT : T.length ≤ 2000) (cfg : Cfg) (h : Heap) :
    callM md (K prim (d + 3)) cfg 39 [rl T, .int .i64 0] h = some (plnS T, h) := by
  refine call0 rfl (hp 39 (by decide)) Tryz.func39 rfl rfl rfl (by simp) ?_
  have hS := fun cfg h => scalars_ok (prim := prim) d cfg h (hp 67 (by decide)) (hp 112 (by decide)) T hT
  have hM : ∀ cfg h, callM md (K prim (d + 2)) cfg 68 [.int .i64 0] h = some (.bool true, h) := fun cfg h => by
    have := marked_ok (prim := prim) (d + 1) cfg h (hp 68 (by decide)) 0
    simpa using this
  unfold plnS
  have ht2 : ¬ (2000 : Int) < T.length := by omega
  cases hsc : T.all scal
  · simp [hS, hM, hsc, ht2]
  by_cases h0 : T = []
  · subst h0
    have hA : callM md (K prim (d + 2)) ⟨0, [], 0⟩ 76 [.ptr 1 0, rl [], .int .i64 0] [some [.nils, .nils], some [.nils, .nils]] = some (.tup [], [some [.nils, .nils], some [.nils, .nils]]) := by
      refine call2 rfl (hp 76 (by decide)) Tryz.func76 rfl rfl rfl ?_
      simp
    rw [hsc] at hS
    have e1 : ((([] : List Int).length : Nat) : Int) = 0 := rfl
    simp [hS, hM, hA, rnZ]
  have hA := add_ok (prim := prim) (d + 1) hp T hT h0
  have hbn : blockOf [some [V.sl 2 0 T.length T.length 1, V.sl 4 0 1 1 2], some [V.sl 2 0 T.length T.length 1, V.sl 4 0 1 1 2], some (T.map (V.int .i32)), some [V.int .i64 T.length, V.int .i64 0], some [V.int .i64 T.length, V.int .i64 0]] 2 = some (T.map (V.int .i32)) := by
    have : isMap (T.map (V.int .i32)) = false := by cases T <;> rfl
    simp [blockOf, this]
  have f1 := frz_ints (n := 0) (d := 2) (len := T.length) (cap := T.length) hbn (by omega) rfl
  have f2 : frz [some [V.sl 2 0 T.length T.length 1, V.sl 4 0 1 1 2], some [V.sl 2 0 T.length T.length 1, V.sl 4 0 1 1 2], some (T.map (V.int .i32)), some [V.int .i64 T.length, V.int .i64 0], some [V.int .i64 T.length, V.int .i64 0]] 0 4 (.sl 4 0 1 1 2) = some (.lst [[.int .i64 T.length, .int .i64 0]]) := by
    simp [frz, blockOf, isMap, chunk]
  simp [hS, hM, hsc, hA, ht2]
  simp [f1, f2, rnZ, h0]
theorem scal_sp {c : ECf} {t : List Int} (h : t.all scal = true) (k : Nat) : ((t.map (spS c)).take k).all scal = true := by
  rw [List.all_eq_true] at h ⊢
  intro x hx
  obtain ⟨y, hy, rfl⟩ := List.mem_map.1 (List.mem_of_mem_take hx)
  unfold spS
  split
  · rfl
  · exact h y hy
def takT (c : ECf) (t : List Int) : List Int := (t.map (spS c)).take (fitS (t.map (spS c)) c.mo).toNat
def okN (c : ECf) (t : List Int) : Bool := decide (1 ≤ c.mo ∧ c.mo ≤ 2000) && t.all scal
def newS (c : ECf) (t : List Int) : V := if okN c t = true then .tup [.agg (edN (takT c t) (rnZ (takT c t)) (takT c t).length (-1)), .int .i64 0] else .tup [.agg (edN [] [] 0 0), .int .i64 1]
theorem tak_len {c : ECf} {t : List Int} : (takT c t).length ≤ t.length := by simp [takT]; omega
set_option maxRecDepth 100000 in
set_option maxHeartbeats 8000000 in
theorem newT_ok (hp : ∀ f, Np5 f → prim f = none) (hC : prim 61 = some (cloneP clR)) (c : ECf) (t : List Int) (ht : t.length ≤ 1000) (cfg : Cfg) (h : Heap) :
    callM md (K prim (d + 6)) cfg 10 [rl t, .agg (ecfC c)] h = some (newS c t, h) := by
  refine call0 rfl (hp 10 (by decide)) Tryz.func10 rfl rfl rfl (by simp [ecfC]) ?_
  have hB := fun cfg h x l r => btw_ok (prim := prim) (d + 4) hp cfg h x l r
  have hS := fun cfg h => spc_ok (prim := prim) d hp hC c t (by omega) cfg h
  have hF := fun cfg h => fit_ok (prim := prim) d hp (t.map (spS c)) (by simp; omega) c.mo cfg h
  have hP := fun cfg h => pln_ok (prim := prim) (d + 2) hp (takT c t) (by have := tak_len (c := c) (t := t); omega) cfg h
  obtain ⟨l9, hmp, hlf, t9, s0, s2, s3, s4, s5, s6, s7, s8⟩ := ecf_sl c
  have hlq := eq_true hlf
  have ht2 : ¬ (2000 : Int) < t.length := by omega
  simp [hlq, hmp, s2, hB]
  refine wIf_intro (fun hb => ?_) (fun hb => ?_)
  · have hn : newS c t = .tup [.agg (edN [] [] 0 0), .int .i64 1] := by
      have : okN c t = false := by unfold okN; grind
      simp [newS, this]
    rw [hn]
    simp
    rfl
  have hmo : 1 ≤ c.mo ∧ c.mo ≤ 2000 := by simp at hb; omega
  simp
  refine wC_loop (fun m fr H => ∃ i : Nat, i ≤ t.length ∧ m = t.length - i ∧ (t.take i).all scal = true ∧ H = [some (ecfC c), some edZ] ∧ Slots 67 [(0, rl t), (3, .ptr 0 0), (4, .ptr 1 0), (16, rl t), (17, .int .i64 t.length), (18, .int .i64 i)] fr) (m := t.length) (by omega) ⟨0, by omega, by omega, by simp, rfl, by simp⟩ ?_
  rintro m fr H ⟨i, hi, rfl, hall, rfl, hs⟩
  obtain ⟨j, rfl⟩ := hs.ex
  clear hs
  by_cases hlt : i < t.length
  · have hI : (i : Int) < t.length := by omega
    obtain ⟨x, hx⟩ : ∃ x, t[i]? = some x := ⟨_, List.getElem?_eq_getElem hlt⟩
    simp +contextual (disch := first | omega | (simp; done) | (simp [Decidable.imp_iff_not_or]; done) | fail) [-wG_bool, wG_q, wG_q2, wGq_some, wGq_true, wGq_false, gq_true, gq_false, pickV_qA, pickV_qO, wrap64, -getElem?_pos, hI, hx]
    refine wIf_intro (fun hz => ?_) (fun hz => ?_)
    · have hsc : scal x = false := by unfold scal; grind
      have hn : newS c t = .tup [.agg (edN [] [] 0 0), .int .i64 1] := by
        have : okN c t = false := by simp [okN, all_take hx hsc]
        simp [newS, this]
      rw [hn]
      simp [edZ]
      rfl
    · have hsc : scal x = true := by unfold scal; grind
      simp (disch := omega) [wrap64]
      exact Rnd_of (m' := t.length - (i + 1)) (by omega) ⟨i + 1, by omega, rfl, by rw [take_snoc' t i x hx, List.all_append, hall]; simp [hsc], rfl, by simp⟩
  · obtain rfl : i = t.length := by omega
    rw [List.take_length] at hall
    have hp1 : plnS (takT c t) = .tup [.agg [rl (takT c t), ml (rnZ (takT c t))], .int .i64 0] := by
      have : (takT c t).all scal = true := scal_sp hall _
      simp [plnS, this]
    rw [hp1] at hP
    have hn : newS c t = .tup [.agg (edN (takT c t) (rnZ (takT c t)) (takT c t).length (-1)), .int .i64 0] := by
      have : okN c t = true := by simp [okN, hall]; exact hmo
      simp [newS, this]
    rw [hn]
    obtain ⟨g1, g2⟩ := fitS_rng (t.map (spS c)) c.mo
    obtain ⟨k, hk⟩ := Int.eq_ofNat_of_zero_le g1
    have hT : takT c t = (t.map (spS c)).take k := by unfold takT; rw [hk]; rfl
    rw [hT] at hP ⊢
    rw [hk] at hF g2
    generalize t.map (spS c) = U at *
    generalize rnZ (U.take k) = Z at *
    simp (disch := omega) [hmp, l9, t9, s2, hS, hF, ht2]
    rw [show V.lst ((U.map fun n => [V.int .i32 n]).take k) = rl (U.take k) from by simp]
    generalize U.take k = W at *
    simp (disch := omega) [hP, edZ]
    rfl
end
end Bi
end Go.Ab
namespace Go.Ab
def kindEq : IntKind → IntKind → Bool
  | .i8, .i8 | .i16, .i16 | .i32, .i32 | .i64, .i64 | .u8, .u8 | .u16, .u16 | .u32, .u32 | .u64, .u64 => true
  | _, _ => false
theorem kindEq_ok {a b : IntKind} (h : kindEq a b = true) : a = b := by
  cases a <;> cases b <;> first | rfl | simp [kindEq] at h
def listEq {α : Type} (f : α → α → Bool) : List α → List α → Bool
  | [], [] => true
  | a :: x, b :: y => f a b && listEq f x y
  | _, _ => false
theorem listEq_ok {α : Type} {f : α → α → Bool} (hf : ∀ a b, f a b = true → a = b) : ∀ x y, listEq f x y = true → x = y
  | [], [], _ => rfl
  | [], _ :: _, h => by simp [listEq] at h
  | _ :: _, [], h => by simp [listEq] at h
  | a :: x, b :: y, h => by
    simp only [listEq, Bool.and_eq_true] at h
    rw [hf a b h.1, listEq_ok hf x y h.2]
def eqb : Nat → V → V → Bool
  | 0, _, _ => false
  | d + 1, x, y => match x, y with
    | .int k a, .int k' b => kindEq k k' && (a == b)
    | .bool a, .bool b => a == b
    | .str a, .str b => listEq (fun (p q : UInt8) => p.toNat == q.toNat) a.data.toList b.data.toList
    | .lst xs, .lst ys => listEq (listEq (eqb d)) xs ys
    | .agg xs, .agg ys => listEq (eqb d) xs ys
    | .nils, .nils => true
    | .nilp, .nilp => true
    | .no, .no => true
    | .sl a b c e f, .sl a' b' c' e' f' => a == a' && b == b' && c == c' && e == e' && f == f'
    | .ptr a b, .ptr a' b' => a == a' && b == b'
    | .tup xs, .tup ys => listEq (eqb d) xs ys
    | .mref a, .mref b => a == b
    | .mq xs, .mq ys => listEq (listEq (eqb d)) xs ys
    | .nilm, .nilm => true
    | .nilf, .nilf => true
    | .func (.func f) [] [], .func (.func g) [] [] => f == g
    | _, _ => false
theorem eqb_ok : ∀ (d : Nat) (x y : V), eqb d x y = true → x = y
  | 0, x, y, h => by simp [eqb] at h
  | d + 1, x, y, h => by
    have ih := eqb_ok d
    unfold eqb at h
    split at h
    · simp only [Bool.and_eq_true, beq_iff_eq] at h
      rw [kindEq_ok h.1, h.2]
    · simp only [beq_iff_eq] at h
      rw [h]
    · rename_i a b
      have := listEq_ok (fun (p q : UInt8) hpq => UInt8.toNat_inj.1 (by simpa using hpq)) _ _ h
      obtain ⟨⟨l⟩⟩ := a
      obtain ⟨⟨m⟩⟩ := b
      simp only at this
      rw [this]
    · rw [listEq_ok (listEq_ok ih) _ _ h]
    · rw [listEq_ok ih _ _ h]
    · rfl
    · rfl
    · rfl
    · simp only [Bool.and_eq_true, beq_iff_eq] at h
      obtain ⟨⟨⟨⟨rfl, rfl⟩, rfl⟩, rfl⟩, rfl⟩ := h
      rfl
    · simp only [Bool.and_eq_true, beq_iff_eq] at h
      obtain ⟨rfl, rfl⟩ := h
      rfl
    · rw [listEq_ok ih _ _ h]
    · simp only [beq_iff_eq] at h
      rw [h]
    · rw [listEq_ok (listEq_ok ih) _ _ h]
    · rfl
    · rfl
    · simp only [beq_iff_eq] at h
      rw [h]
    · cases h
def blkEq : Option (List V) → Option (List V) → Bool
  | none, none => true
  | some x, some y => listEq (eqb 9) x y
  | _, _ => false
theorem blkEq_ok (x y : Option (List V)) (h : blkEq x y = true) : x = y := by
  cases x <;> cases y <;> first | rfl | (simp [blkEq] at h; done) | (simp only [blkEq] at h; rw [listEq_ok (eqb_ok 9) _ _ h])
def cfgEq (a b : Cfg) : Bool := a.lo == b.lo && a.thr == b.thr && listEq (fun x y => Nat.beq x y) a.ex b.ex
theorem cfgEq_ok (a b : Cfg) (h : cfgEq a b = true) : a = b := by
  obtain ⟨l, e, t⟩ := a
  obtain ⟨l', e', t'⟩ := b
  simp only [cfgEq, Bool.and_eq_true, beq_iff_eq] at h
  obtain ⟨⟨rfl, rfl⟩, h⟩ := h
  rw [listEq_ok (fun a b h => Nat.eq_of_beq_eq_true h) _ _ h]
structure Key where
  cfg : Cfg
  args : List V
  h : Heap
abbrev Tbl := List (Key × V × Heap)
def keyEq (k : Key) (cfg : Cfg) (args : List V) (h : Heap) : Bool := cfgEq k.cfg cfg && listEq (eqb 9) k.args args && listEq blkEq k.h h
def find : Tbl → Cfg → List V → Heap → Option (V × Heap)
  | [], _, _, _ => none
  | (k, r) :: t, cfg, args, h => if keyEq k cfg args h then some r else find t cfg args h
def memoP (t : Tbl) : Prim := fun cfg args h => find t cfg args h
def primOf : List (FuncId × Tbl) → FuncId → Option Prim
  | [], _ => none
  | (g, t) :: r, f => if f == g then some (memoP t) else primOf r f
section
variable {P : Program} {md : FuncId → Nat} {prim : FuncId → Option Prim} {n d : Nat}
def RowsOK (P : Program) (md : FuncId → Nat) (prim : FuncId → Option Prim) (n d : Nat) (f : FuncId) (t : Tbl) : Prop := ∀ k r, (k, r) ∈ t → callN P md prim n d k.cfg f k.args k.h = some r
theorem rows_nil {f : FuncId} : RowsOK P md prim n d f [] := fun _ _ h => by simp at h
theorem rows_cons {f : FuncId} {k : Key} {r : V × Heap} {t : Tbl} (hr : callN P md prim n d k.cfg f k.args k.h = some r) (ht : RowsOK P md prim n d f t) : RowsOK P md prim n d f ((k, r) :: t) := by
  intro k' r' hm
  rcases List.mem_cons.1 hm with hm | hm
  · cases hm; exact hr
  · exact ht k' r' hm
theorem find_mem : ∀ (t : Tbl) (cfg : Cfg) (args : List V) (h : Heap) (r : V × Heap), find t cfg args h = some r → (⟨cfg, args, h⟩, r) ∈ t
  | [], _, _, _, _, h => by simp [find] at h
  | (k, s) :: t, cfg, args, h, r, hf => by
    unfold find at hf
    split at hf
    · rename_i he
      cases hf
      simp only [keyEq, Bool.and_eq_true] at he
      obtain ⟨kc, ka, kh⟩ := k
      obtain ⟨⟨h1, h2⟩, h3⟩ := he
      rw [← cfgEq_ok _ _ h1, ← listEq_ok (eqb_ok 9) _ _ h2, ← listEq_ok blkEq_ok _ _ h3]
      exact List.mem_cons_self ..
    · exact List.mem_cons_of_mem _ (find_mem t cfg args h r hf)
theorem memo_ok (hm : P.follows .mixedOrders = true) (hN : Named P) (hp : ∀ f p, prim f = some p → PrimOK P f p) {f : FuncId} {t : Tbl} (ht : RowsOK P md prim n d f t) : PrimOK P f (memoP t) := by
  intro cfg args h r h' hx
  exact callN_ok hm hN hp d _ _ _ _ _ _ (ht _ _ (find_mem t cfg args h _ hx))
theorem memo_cons {l : List (FuncId × Tbl)} (hl : ∀ f t, (f, t) ∈ l → PrimOK P f (memoP t)) {f : FuncId} {t : Tbl} (hf : PrimOK P f (memoP t)) : ∀ g u, (g, u) ∈ (f, t) :: l → PrimOK P g (memoP u) := by
  intro g u hgu
  rcases List.mem_cons.1 hgu with h | h
  · cases h; exact hf
  · exact hl g u h
theorem primOf_ok : ∀ (l : List (FuncId × Tbl)), (∀ f t, (f, t) ∈ l → PrimOK P f (memoP t)) → ∀ f p, primOf l f = some p → PrimOK P f p
  | [], _, f, p, h => by simp [primOf] at h
  | (g, t) :: r, hl, f, p, h => by
    unfold primOf at h
    split at h
    · rename_i he
      cases h
      rw [eq_of_beq he]
      exact hl g t (List.mem_cons_self ..)
    · exact primOf_ok r (fun f t hft => hl f t (List.mem_cons_of_mem _ hft)) f p h
end
end Go.Ab
namespace Go.Ab
variable [Base]
def noDefer (o : Oper) : Bool := match o.op with
  | .defer _ => false
  | _ => true
def roundB : Code → Bool
  | .skip | .exit _ => true
  | .region _ ops dr => !dr && ops.toList.all noDefer
  | .seq a b => roundB a && roundB b
  | .cond _ a b => roundB a && roundB b
  | .block _ b => roundB b
  | _ => false
section
variable {P : Program} {l n : Nat}
theorem opIn {o : Oper} {a : Act} {w : World} {K : Act → World → Prop} {Q : Exit → Act → World → Prop} (hd : noDefer o = true) (h : o.wp P a w K Q) : o.wpIn (Fence.wide.inRound l) n P a w K Q := by
  refine ⟨fun _ _ => trivial, ?_⟩
  rw [show (Fence.wide.inRound l).round = some l from rfl, Oper.semAt_some l a.eval o (fun c e => by simp [noDefer, e] at hd)]
  unfold Oper.wp at h
  revert h
  generalize (execOp a.eval o).run P w = r
  intro h
  cases r with
  | ok x w' =>
    cases x with
    | value v => exact h
    | skip => exact h
    | defer d => exact h
    | enter f args => exact ⟨fun he => by simp [Fence.wide] at he, CallsIn.inRound l (callsIn_wide.2 h)⟩
    | row row args => exact ⟨fun he => by simp [Fence.wide] at he, fun c cs _ => let ⟨v, w', r, s⟩ := h c cs; ⟨v, w', r, stepsIn_wide.2 s⟩⟩
    | _ => exact h.elim
  | halt x w' =>
    cases x with
    | panic v => exact h
    | _ => exact h.elim
theorem stepOpIn (hN : Named P) {md : FuncId → Nat} {call : Callf} (hcall : CallOK P call) {cfg : Cfg} {ops : Array Oper} {fr fr' : List V} {h h' : Heap} {o : Oper} (hd : noDefer o = true) (hx : stepOp P md call cfg ops o fr h = some (fr', h')) :
    HS cfg h h' ∧ ∀ m w a, Rel m h w → FR m h w fr a → ∀ (K : Act → World → Prop) (Q : Exit → Act → World → Prop), (∀ a' w', After m h w fr' h' a' w' → K a' w') →
      if Region.wanted o (yielded ops a.tmps) then o.wpIn (Fence.wide.inRound l) n P a w K Q else (∀ f, o.about P w a.eval = some f → (Fence.wide.inRound l).fn f) ∧ K (a.put o.dst undef) w := by
  unfold stepOp at hx
  split at hx
  · rename_i hw
    split at hx
    · rename_i v h2 hv
      simp only [Option.some.injEq, Prod.mk.injEq] at hx
      obtain ⟨rfl, rfl⟩ := hx
      obtain ⟨hok, hs⟩ := opEv_ok hN hcall hv
      refine ⟨hs, fun m w a r fR K Q hK => ?_⟩
      rw [wantd_ok fR hw]
      simp only [if_true]
      exact opIn hd (hok m w a r fR K Q fun u w' ⟨m', e, r', hru⟩ => hK _ _ ⟨m', e, r', (fR.evo r e).put hru o.dst⟩)
    · cases hx
  · rename_i hw
    simp only [Option.some.injEq, Prod.mk.injEq] at hx
    obtain ⟨rfl, rfl⟩ := hx
    refine ⟨.refl _ _, fun m w a r fR K Q hK => ?_⟩
    rw [wantd_ok fR hw]
    simp only [Bool.false_eq_true, if_false]
    exact ⟨fun _ _ => trivial, hK _ _ ⟨m, .refl _ _ _, r, fR.put .no o.dst⟩⟩
  · cases hx
theorem runOpsIn (hN : Named P) {md : FuncId → Nat} {call : Callf} (hcall : CallOK P call) {cfg : Cfg} {ops : Array Oper} : ∀ (q : List Oper) {fr fr' : List V} {h h' : Heap}, q.all noDefer = true → runOps P md call cfg ops q fr h = some (fr', h') →
    HS cfg h h' ∧ ∀ m w a, Rel m h w → FR m h w fr a → ∀ (Q : Exit → Act → World → Prop), (∀ a' w', After m h w fr' h' a' w' → Q .normal a' w') → wpListIn (Fence.wide.inRound l) n P ops Q q a w
  | [], fr, fr', h, h', _, hx => by
    simp only [runOps, Option.some.injEq, Prod.mk.injEq] at hx
    obtain ⟨rfl, rfl⟩ := hx
    exact ⟨.refl _ _, fun m w a r fR Q hQ => hQ a w ⟨m, .refl _ _ _, r, fR⟩⟩
  | o :: q, fr, fr', h, h', hd, hx => by
    simp only [List.all_cons, Bool.and_eq_true] at hd
    simp only [runOps] at hx
    split at hx
    · rename_i fr1 h1 h2
      obtain ⟨hs1, hstep⟩ := stepOpIn (l := l) (n := n) hN hcall hd.1 h2
      obtain ⟨hs2, hrest⟩ := runOpsIn hN hcall q hd.2 hx
      refine ⟨hs1.trans hs2, fun m w a r fR Q hQ => ?_⟩
      simp only [wpListIn]
      exact hstep m w a r fR _ Q fun a' w' ⟨m', e, r', f'⟩ => hrest m' w' a' r' f' Q fun a2 w2 k => hQ a2 w2 (k.trans e)
    · cases hx
theorem codeIn_ok (hN : Named P) {md : FuncId → Nat} {call : Callf} (hcall : CallOK P call) {draw : Drawf} {cfg : Cfg} {k : Nat} : ∀ (c : Code) (fr : List V) (h : Heap) (s : St), roundB c = true →
    code P md call draw cfg k c fr h = some s → HS cfg h s.2.2 ∧ ∀ m w a, Rel m h w → FR m h w fr a → ∀ (Q : Exit → Act → World → Prop), (∀ a' w', After m h w s.2.1 s.2.2 a' w' → Q (exOf s.1) a' w') → c.wpIn (Fence.wide.inRound l) n P Q a w := by
  intro c
  induction c with
  | skip =>
    intro fr h s _ hx
    simp only [code, Option.some.injEq] at hx
    subst hx
    exact ⟨.refl _ _, fun m w a r fR Q hQ => wpIn_skip (hQ a w ⟨m, .refl _ _ _, r, fR⟩)⟩
  | exit id =>
    intro fr h s _ hx
    simp only [code, Option.some.injEq] at hx
    subst hx
    exact ⟨.refl _ _, fun m w a r fR Q hQ => wpIn_exit (hQ a w ⟨m, .refl _ _ _, r, fR⟩)⟩
  | region id ops dr =>
    intro fr h s hb hx
    simp only [roundB, Bool.and_eq_true, Bool.not_eq_true'] at hb
    obtain ⟨rfl, hd⟩ := hb
    simp only [code] at hx
    split at hx
    · rename_i fr' h' hr
      cases hx
      obtain ⟨hs, hw⟩ := runOpsIn (l := l) (n := n) hN hcall _ hd hr
      exact ⟨hs, fun m w a r fR Q hQ => wpIn_region_list (hw m w a r fR Q hQ)⟩
    · cases hx
  | seq x y ihx ihy =>
    intro fr h s hb hx
    simp only [roundB, Bool.and_eq_true] at hb
    simp only [code] at hx
    split at hx
    · rename_i fr1 h1 h2
      obtain ⟨hs1, hw1⟩ := ihx _ _ _ hb.1 h2
      obtain ⟨hs2, hw2⟩ := ihy _ _ _ hb.2 hx
      refine ⟨hs1.trans hs2, fun m w a r fR Q hQ => wpIn_seq (hw1 m w a r fR _ fun a' w' ⟨m', e, r', f'⟩ => hw2 m' w' a' r' f' Q fun a2 w2 k => hQ a2 w2 (k.trans e))⟩
    · rename_i hne
      obtain ⟨hs1, hw1⟩ := ihx _ _ _ hb.1 hx
      refine ⟨hs1, fun m w a r fR Q hQ => wpIn_seq (hw1 m w a r fR _ fun a' w' k => ?_)⟩
      have := hQ a' w' k
      revert this
      obtain ⟨e1, f1, h1⟩ := s
      cases e1 with
      | normal => exact absurd hx (hne f1 h1)
      | exit id => exact fun x => x
      | ret => exact fun x => x
  | cond c x y ihx ihy =>
    intro fr h s hb hx
    simp only [roundB, Bool.and_eq_true] at hb
    simp only [code] at hx
    split at hx
    · rename_i hc
      obtain ⟨hs, hw⟩ := ihx _ _ _ hb.1 hx
      refine ⟨hs, fun m w a r fR Q hQ => ?_⟩
      have hcr := ev_R fR hc
      generalize hce : a.eval c = ce at hcr
      cases hcr
      exact wpIn_cond_true hce (hw m w a r fR Q hQ)
    · rename_i hc
      obtain ⟨hs, hw⟩ := ihy _ _ _ hb.2 hx
      refine ⟨hs, fun m w a r fR Q hQ => ?_⟩
      have hcr := ev_R fR hc
      generalize hce : a.eval c = ce at hcr
      cases hcr
      exact wpIn_cond_false hce (hw m w a r fR Q hQ)
    · cases hx
  | block id b ih =>
    intro fr h s hb hx
    simp only [roundB] at hb
    simp only [code] at hx
    split at hx
    · rename_i i fr1 h1 h2
      cases hx
      obtain ⟨hs, hw⟩ := ih _ _ _ hb h2
      refine ⟨hs, fun m w a r fR Q hQ => wpIn_block (hw m w a r fR _ fun a' w' k => ?_)⟩
      have := hQ a' w' k
      simp only [exOf, Exit.inBlock]
      by_cases hi : i = id
      · rw [if_pos hi]; simpa [hi, exOf] using this
      · rw [if_neg hi]; simpa [hi, exOf] using this
    · rename_i hne
      obtain ⟨hs, hw⟩ := ih _ _ _ hb hx
      refine ⟨hs, fun m w a r fR Q hQ => wpIn_block (hw m w a r fR _ fun a' w' k => ?_)⟩
      have := hQ a' w' k
      revert this
      obtain ⟨e1, f1, h1⟩ := s
      cases e1 with
      | normal => exact fun x => x
      | exit id => exact absurd hx (hne id f1 h1)
      | ret => exact fun x => x
  | _ => intro fr h s hb; simp [roundB] at hb
end
end Go.Ab
