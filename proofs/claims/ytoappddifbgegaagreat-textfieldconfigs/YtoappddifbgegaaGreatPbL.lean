/- The law TextfieldConfigs: walked. -/
import Derived.Test.YtoappddifbgegaaGreatAbRound
import Derived.Test.YtoappddifbgegaaGreatPbW
set_option linter.all false
namespace Go.Ab
open Go.Proofs
namespace Bi
theorem clR_ok : PrimOK Tryz.prog 61 (cloneP clR) := by
  refine cloneP_ok (fun _ _ _ _ _ hx => callN_ok Aw.hfol Aw.hnam (fun _ _ h => by cases h) 30 _ _ _ _ _ _ hx) (b2 := 1) (k := 1) (h2' := [none, some []]) ?_ ?_
  · kernel_rfl
  · kernel_rfl
noncomputable def pT (f : FuncId) : Option Prim := if f = 13 then some (memoP Aw.t13) else if f = 61 then some (cloneP clR) else none
theorem pT_ok : ∀ f p, pT f = some p → PrimOK Tryz.prog f p := by
  intro f p h
  unfold pT at h
  split at h
  · rename_i hf
    cases h
    subst hf
    exact Aw.pk30 _ _ List.mem_cons_self
  · split at h
    · rename_i hf
      cases h
      subst hf
      exact clR_ok
    · cases h
theorem pT_none : ∀ f, Np5 f → pT f = none := by
  intro f h
  unfold pT
  rw [if_neg, if_neg]
  · intro e; subst e; exact absurd h (by decide)
  · intro e; subst e; exact absurd h (by decide)
theorem awakeT (d : Nat) (cfg : Cfg) (h : Heap) : callM md (K pT (d + 1)) cfg 13 [] h = some (.bool true, h) := by kernel_rfl
section
attribute [local congr] wGq_congr
set_option maxRecDepth 100000 in
set_option maxHeartbeats 16000000 in
theorem cfg_ok (d : Nat) (c : ECf) (fs : List Fnt) (e : Edt) (t : List Int) : ∃ v h', callN Tryz.prog md pT 10000 (d + 9) ⟨0, [], 0⟩ 3 [.agg (ecfC c), .lst (fs.map fntC), .agg (edC e), rl t] [] = some (v, h') ∧ v = .bool true := by
  refine callN_of (R := fun r _ => r = .bool true) (pT_none _ (by decide)) Tryz.func3 rfl rfl rfl ?_
  obtain ⟨l9, hmp, hlf, t9, s0, s2, s3, s4, s5, s6, s7, s8⟩ := ecf_sl c
  obtain ⟨el, em, ef, et, e0, e1, e2, e3, e5, e6, e7, e8, e9, e10, e17, e18, ec, eb, eo⟩ := ed_sl e
  have hlq := eq_true hlf
  have elq := eq_true ef
  simp +contextual (disch := first | omega | (simp; done) | (simp [Decidable.imp_iff_not_or]; done) | fail) [-wG_bool, wG_q, wG_q2, wGq_some, wGq_true, wGq_false, gq_true, gq_false, pickV_qA, pickV_qO, wrap64, -getElem?_pos, hlq, elq, hmp, em, e0, e1, e8, e9]
  refine wIf_intro (fun hb => by simp) (fun hb => ?_)
  have hsz : fs.length ≤ 10 ∧ EdOK e ∧ t.length ≤ 60 := by
    unfold EdOK
    simp at hb
    omega
  clear hb
  obtain ⟨hfl, hE, htl⟩ := hsz
  simp
  refine wC_loop (fun m fr H => ∃ i : Nat, i ≤ fs.length ∧ m = fs.length - i ∧ H = [some (ecfC c), some (edC e)] ∧
    Slots 118 [(1, .lst (fs.map fntC)), (3, rl t), (4, .ptr 0 0), (6, .ptr 1 0), (9, .int .i64 i)] fr) (m := fs.length) (by omega) ⟨0, by omega, by omega, rfl, by simp⟩ ?_
  rintro m fr H ⟨i, hi, rfl, rfl, hs⟩
  obtain ⟨j, rfl⟩ := hs.ex
  clear hs
  by_cases hlt : i < fs.length
  · have hI : (i : Int) < fs.length := by omega
    obtain ⟨x, hx⟩ : ∃ x, fs[i]? = some x := ⟨_, List.getElem?_eq_getElem hlt⟩
    have hx' := fs_get hx
    obtain ⟨flf, fmp, f8, ft8, q0, q1, q2, q3, q4, q5, q6, q7⟩ := fsl x
    simp (disch := omega) [hI]
    refine wC_draw 19 (by kernel_rfl) ?_
    simp (disch := omega) [hI, hx', f8, q5, q6, q7, -getElem?_pos, -List.getElem?_map]
    refine wIf_intro (fun hz => by simp) (fun hz => ?_)
    simp (disch := omega) [wrap64]
    exact Rnd_of (m' := fs.length - (i + 1)) (by omega) ⟨i + 1, by omega, rfl, rfl, by simp⟩
  · obtain rfl : i = fs.length := by omega
    have hF : FsOK fs := hfl
    have hA := fun cfg h => awakeT (d + 7) cfg h
    have hV1 := fun cfg h => vT_ok (prim := pT) (d + 2) pT_none c fs hF cfg h
    have hV2 := fun cfg h => vR_ok (prim := pT) (d + 5) pT_none c fs hF cfg h
    have hC1 := fun cfg h => chT_ok (prim := pT) (d + 1) pT_none c e hE cfg h
    have hC2 := fun cfg h => chR_ok (prim := pT) (d + 2) pT_none c e hE cfg h
    have hN1 := fun cfg h => newT_ok (prim := pT) (d + 2) pT_none rfl c t (by omega) cfg h
    have hN2 := fun cfg h => newR_ok (prim := pT) (d + 1) pT_none c t (by omega) cfg h
    have hm1 : md 6 = 0 := rfl
    have hm2 : md 7 = 0 := rfl
    have hm3 : md 8 = 0 := rfl
    have hm4 : md 9 = 0 := rfl
    simp (disch := omega)
    refine wC_draw 13 (by kernel_rfl) ?_
    simp +contextual (disch := first | omega | (simp; done) | (simp [Decidable.imp_iff_not_or]; done) | fail) [-wG_bool, wG_q, wG_q2, wGq_some, wGq_true, wGq_false, gq_true, gq_false, pickV_qA, pickV_qO, wrap64, -getElem?_pos, hm1, hm2, hm3, hm4, hV1, hV2, hC1, hC2, hmp, em, l9, t9, el, et]
    obtain ⟨T, Z, n, g, x, hn, hTl, hZl⟩ : ∃ T Z n g x, newS c t = .tup [.agg (edN T Z n g), .int .i64 x] ∧ T.length ≤ 2000 ∧ Z.length ≤ 2000 := by
      unfold newS
      split
      · refine ⟨_, _, _, _, _, rfl, by have := tak_len (c := c) (t := t); omega, ?_⟩
        unfold rnZ
        split <;> simp
      · exact ⟨[], [], 0, 0, 1, rfl, by simp, by simp⟩
    rw [hn] at hN1 hN2
    have hE1 := fun cfg h => eeq_ok (prim := pT) (d + 4) pT_none T Z n g hTl hZl cfg h
    have hlE : (edN T Z n g).length = 19 := rfl
    have hmE : isMap (edN T Z n g) = false := rfl
    have htE : (edN T Z n g).take 19 = edN T Z n g := rfl
    have hfE := eq_true (show ∀ x ∈ edN T Z n g, x.leaf = true from by simp [edN])
    have hpE : putAt edZ 0 (edN T Z n g) = edN T Z n g := rfl
    unfold edZ at hpE
    simp +contextual (disch := first | omega | (simp; done) | (simp [Decidable.imp_iff_not_or]; done) | fail) [-wG_bool, wG_q, wG_q2, wGq_some, wGq_true, wGq_false, gq_true, gq_false, pickV_qA, pickV_qO, wrap64, -getElem?_pos, hN1, hN2, hE1, hA, hlE, hmE, htE, hfE, hpE, hmp, l9, t9]
end
end Bi
end Go.Ab
