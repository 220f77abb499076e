/- The program: the cluster boundaries of a text, exactly. -/
import Derived.Test.YtoappddifbgegaaGreatPaRef2
import Derived.Test.YtoappddifbgegaaGreatPaKn
set_option linter.all false
namespace Go.Ab
open Go.Proofs
namespace Bi
attribute [local congr] wGq_congr
def ctS (x : Int) : Bool := decide (x = 3) || decide (x = 1) || decide (x = 2)
def pcG (c : List Int) : Nat → Bool
  | 0 => false
  | k + 1 => if lgI c k = 4 then pcG c k else decide (lgI c k = 14)
def riG (c : List Int) : Nat → Nat
  | 0 => 0
  | k + 1 => if lgI c k = 6 then riG c k + 1 else 0
def prtB (c : List Int) (i : Nat) : Bool :=
  if lgI c (i - 1) = 1 ∧ lgI c i = 2 then false
  else if ctS (lgI c (i - 1)) = true ∨ ctS (lgI c i) = true then true
  else if lgI c (i - 1) = 9 ∧ (lgI c i = 9 ∨ lgI c i = 10 ∨ lgI c i = 12 ∨ lgI c i = 13) then false
  else if (lgI c (i - 1) = 12 ∨ lgI c (i - 1) = 10) ∧ (lgI c i = 10 ∨ lgI c i = 11) then false
  else if (lgI c (i - 1) = 13 ∨ lgI c (i - 1) = 11) ∧ lgI c i = 11 then false
  else if lgI c i = 4 ∨ lgI c i = 5 ∨ lgI c i = 8 ∨ lgI c (i - 1) = 7 then false
  else if lgI c i = 14 ∧ (lgI c (i - 1) = 5 ∧ pcG c (i - 1) = true) then false
  else if lgI c (i - 1) = 6 ∧ lgI c i = 6 then decide (((riG c i : Nat) : Int).tmod 2 = 0)
  else true
section
variable {prim : FuncId → Option Prim} (d : Nat)
theorem ctl_ok (hp : ∀ f, Np5 f → prim f = none) (cfg : Cfg) (h : Heap) (x : Int) : callM md (K prim (d + 1)) cfg 187 [.int .i64 x] h = some (.bool (ctS x), h) := by
  refine call0 rfl (hp 187 (by decide)) Tryz.func187 rfl rfl rfl (by simp) ?_
  by_cases h1 : x = 3
  · simp [h1, ctS]
  by_cases h2 : x = 1
  · simp [h2, ctS]
  by_cases h3 : x = 2 <;> simp [h1, h2, h3, ctS]
set_option maxHeartbeats 4000000 in
theorem pict_ok (hp : ∀ f, Np5 f → prim f = none) (H : Heap) (b : Nat) (c : List Int) (hb : blockOf H b = some (c.map (V.int .i64))) (hc : c.length ≤ 2000) (i : Nat) (h1 : 0 < i) (hi : i < c.length) (cfg : Cfg) :
    callM md (K prim (d + 1)) cfg 188 [.sl b 0 c.length c.length 1, .int .i64 i] H = some (.bool (decide (lgI c (i - 1) = 5) && pcG c (i - 1)), H) := by
  suffices HH : ∃ r h2, (∀ cfg, callM md (K prim (d + 1)) cfg 188 [.sl b 0 c.length c.length 1, .int .i64 i] H = some (r, h2)) ∧ (r = .bool (decide (lgI c (i - 1) = 5) && pcG c (i - 1)) ∧ h2 = H) by
    obtain ⟨_, _, h, rfl, rfl⟩ := HH
    exact h cfg
  refine call0rx (Post := fun r h2 => r = .bool (decide (lgI c (i - 1) = 5) && pcG c (i - 1)) ∧ h2 = H) rfl (hp 188 (by decide)) Tryz.func188 rfl rfl rfl (by simp) ?_
  have e1 : (i : Int) - 1 = ((i - 1 : Nat) : Int) := by omega
  have hl1 : i - 1 < c.length := by omega
  simp +contextual (disch := first | omega | (simp; done) | (simp [Decidable.imp_iff_not_or]; done) | fail) [-wG_bool, wG_q, wG_q2, wGq_some, wGq_true, wGq_false, gq_true, gq_false, pickV_qA, pickV_qO, wrap64, -getElem?_pos, hb, e1, atI, hl1]
  refine wIf_intro (fun hz => ?_) (fun hz => ?_)
  · have h5 : ¬ lgI c (i - 1) = 5 := by simpa using hz
    simp [h5]
  have h5 : lgI c (i - 1) = 5 := by simpa using hz
  simp (disch := omega) [wrap64]
  refine wC_loop (fun m fr H' => ∃ q : Nat, q ≤ i - 1 ∧ m = q ∧ pcG c (i - 1) = pcG c q ∧ H' = H ∧ Slots 35 [(0, .sl b 0 c.length c.length 1), (5, .int .i64 ((q : Int) - 1))] fr) (m := i - 1) (by omega) ⟨i - 1, by omega, rfl, rfl, rfl, by simp⟩ ?_
  rintro m fr H' ⟨q, hq, hmq, hpc, rfl, hs⟩
  replace hmq := hmq.symm
  subst hmq
  obtain ⟨j, rfl⟩ := hs.ex
  clear hs
  rcases q with _ | q
  · rw [hpc]
    simp +contextual (disch := first | omega | (simp; done) | (simp [Decidable.imp_iff_not_or]; done) | fail) [-wG_bool, wG_q, wG_q2, wGq_some, wGq_true, wGq_false, gq_true, gq_false, pickV_qA, pickV_qO, wrap64, -getElem?_pos, hb, atI]
    exact fun _ => rfl
  · have e2 : ((q + 1 : Nat) : Int) - 1 = q := by omega
    have e3 : q < c.length := by omega
    rw [pcG] at hpc
    simp +contextual (disch := first | omega | (simp; done) | (simp [Decidable.imp_iff_not_or]; done) | fail) [-wG_bool, wG_q, wG_q2, wGq_some, wGq_true, wGq_false, gq_true, gq_false, pickV_qA, pickV_qO, wrap64, -getElem?_pos, hb, atI, e2, e3]
    refine wIf_intro (fun hz => ?_) (fun hz => ?_)
    · rw [if_pos (by simpa using hz)] at hpc
      simp (disch := omega) [wrap64]
      exact Rnd_of (m' := q) (by omega) ⟨q, by omega, rfl, hpc, rfl, by simp⟩
    · rw [if_neg (by simpa using hz)] at hpc
      rw [hpc, h5]
      simp +contextual (disch := first | omega | (simp; done) | (simp [Decidable.imp_iff_not_or]; done) | fail) [-wG_bool, wG_q, wG_q2, wGq_some, wGq_true, wGq_false, gq_true, gq_false, pickV_qA, pickV_qO, wrap64, -getElem?_pos, hb, atI, e2, e3]
set_option maxRecDepth 100000 in
set_option maxHeartbeats 8000000 in
theorem parts_ok (hp : ∀ f, Np5 f → prim f = none) (H : Heap) (b : Nat) (c : List Int) (hb : blockOf H b = some (c.map (V.int .i64))) (hc : c.length ≤ 2000) (i : Nat) (h1 : 0 < i) (hi : i < c.length) (cfg : Cfg) :
    callM md (K prim (d + 2)) cfg 116 [.sl b 0 c.length c.length 1, .int .i64 i] H = some (.bool (prtB c i), H) := by
  suffices HH : ∃ r h2, (∀ cfg, callM md (K prim (d + 2)) cfg 116 [.sl b 0 c.length c.length 1, .int .i64 i] H = some (r, h2)) ∧ (r = .bool (prtB c i) ∧ h2 = H) by
    obtain ⟨_, _, h, rfl, rfl⟩ := HH
    exact h cfg
  refine call0rx (Post := fun r h2 => r = .bool (prtB c i) ∧ h2 = H) rfl (hp 116 (by decide)) Tryz.func116 rfl rfl rfl (by simp) ?_
  have e1 : (i : Int) - 1 = ((i - 1 : Nat) : Int) := by omega
  have hl1 : i - 1 < c.length := by omega
  have hx := atI (l := c) (i := i - 1) hl1
  have hy := atI (l := c) (i := i) hi
  have hC := fun cfg h x => ctl_ok (prim := prim) d hp cfg h x
  have hP := fun cfg => pict_ok (prim := prim) d hp H b c hb hc i h1 hi cfg
  obtain ⟨x, hxE⟩ : ∃ x, lgI c (i - 1) = x := ⟨_, rfl⟩
  obtain ⟨y, hyE⟩ : ∃ y, lgI c i = y := ⟨_, rfl⟩
  have hE : prtB c i = (if x = 1 ∧ y = 2 then false else if ctS x = true ∨ ctS y = true then true else if x = 9 ∧ (y = 9 ∨ y = 10 ∨ y = 12 ∨ y = 13) then false else if (x = 12 ∨ x = 10) ∧ (y = 10 ∨ y = 11) then false else if (x = 13 ∨ x = 11) ∧ y = 11 then false else if y = 4 ∨ y = 5 ∨ y = 8 ∨ x = 7 then false else if y = 14 ∧ (x = 5 ∧ pcG c (i - 1) = true) then false else if x = 6 ∧ y = 6 then decide (((riG c i : Nat) : Int).tmod 2 = 0) else true) := by unfold prtB; rw [hxE, hyE]
  rw [hxE] at hx hP
  rw [hyE] at hy
  simp
  refine wC_draw 10 (by kernel_rfl) ?_
  simp +contextual (disch := first | omega | (simp; done) | (simp [Decidable.imp_iff_not_or]; done) | fail) [-wG_bool, wG_q, wG_q2, wGq_some, wGq_true, wGq_false, gq_true, gq_false, pickV_qA, pickV_qO, wrap64, -getElem?_pos, hb, e1, hx, hy, hl1]
  refine wIf_intro (fun hz => ?_) (fun hz => ?_)
  · have g : x = 1 ∧ y = 2 := by simpa using hz
    rw [if_pos g] at hE
    simp [hE]
  have g : ¬ (x = 1 ∧ y = 2) := by simpa using hz
  rw [if_neg g] at hE
  simp +contextual (disch := first | omega | (simp; done) | (simp [Decidable.imp_iff_not_or]; done) | fail) [-wG_bool, wG_q, wG_q2, wGq_some, wGq_true, wGq_false, gq_true, gq_false, pickV_qA, pickV_qO, hC]
  refine wIf_intro (fun hz => ?_) (fun hz => ?_)
  · have g : ctS x = true ∨ ctS y = true := by simpa using hz
    rw [if_pos g] at hE
    simp [hE]
  have g : ¬ (ctS x = true ∨ ctS y = true) := by simpa using hz
  rw [if_neg g] at hE
  simp +contextual (disch := first | omega | (simp; done) | (simp [Decidable.imp_iff_not_or]; done) | fail) [-wG_bool, wG_q, wG_q2, wGq_some, wGq_true, wGq_false, gq_true, gq_false, pickV_qA, pickV_qO]
  refine wIf_intro (fun hz => ?_) (fun hz => ?_)
  · have g : x = 9 ∧ (y = 9 ∨ y = 10 ∨ y = 12 ∨ y = 13) := by simp at hz; omega
    rw [if_pos g] at hE
    simp [hE]
  have g : ¬ (x = 9 ∧ (y = 9 ∨ y = 10 ∨ y = 12 ∨ y = 13)) := by simp at hz; omega
  rw [if_neg g] at hE
  simp +contextual (disch := first | omega | (simp; done) | (simp [Decidable.imp_iff_not_or]; done) | fail) [-wG_bool, wG_q, wG_q2, wGq_some, wGq_true, wGq_false, gq_true, gq_false, pickV_qA, pickV_qO]
  refine wIf_intro (fun hz => ?_) (fun hz => ?_)
  · have g : (x = 12 ∨ x = 10) ∧ (y = 10 ∨ y = 11) := by simp at hz; omega
    rw [if_pos g] at hE
    simp [hE]
  have g : ¬ ((x = 12 ∨ x = 10) ∧ (y = 10 ∨ y = 11)) := by simp at hz; omega
  rw [if_neg g] at hE
  simp +contextual (disch := first | omega | (simp; done) | (simp [Decidable.imp_iff_not_or]; done) | fail) [-wG_bool, wG_q, wG_q2, wGq_some, wGq_true, wGq_false, gq_true, gq_false, pickV_qA, pickV_qO]
  refine wIf_intro (fun hz => ?_) (fun hz => ?_)
  · have g : (x = 13 ∨ x = 11) ∧ y = 11 := by simp at hz; omega
    rw [if_pos g] at hE
    simp [hE]
  have g : ¬ ((x = 13 ∨ x = 11) ∧ y = 11) := by simp at hz; omega
  rw [if_neg g] at hE
  simp +contextual (disch := first | omega | (simp; done) | (simp [Decidable.imp_iff_not_or]; done) | fail) [-wG_bool, wG_q, wG_q2, wGq_some, wGq_true, wGq_false, gq_true, gq_false, pickV_qA, pickV_qO]
  refine wIf_intro (fun hz => ?_) (fun hz => ?_)
  · have g : y = 4 ∨ y = 5 ∨ y = 8 ∨ x = 7 := by simp at hz; omega
    rw [if_pos g] at hE
    simp [hE]
  have g : ¬ (y = 4 ∨ y = 5 ∨ y = 8 ∨ x = 7) := by simp at hz; omega
  rw [if_neg g] at hE
  simp +contextual (disch := first | omega | (simp; done) | (simp [Decidable.imp_iff_not_or]; done) | fail) [-wG_bool, wG_q, wG_q2, wGq_some, wGq_true, wGq_false, gq_true, gq_false, pickV_qA, pickV_qO, hP]
  refine wIf_intro (fun hz => ?_) (fun hz => ?_)
  · have g : y = 14 ∧ (x = 5 ∧ pcG c (i - 1) = true) := by simpa using hz
    rw [if_pos g] at hE
    simp [hE]
  have g : ¬ (y = 14 ∧ (x = 5 ∧ pcG c (i - 1) = true)) := by simpa using hz
  rw [if_neg g] at hE
  simp +contextual (disch := first | omega | (simp; done) | (simp [Decidable.imp_iff_not_or]; done) | fail) [-wG_bool, wG_q, wG_q2, wGq_some, wGq_true, wGq_false, gq_true, gq_false, pickV_qA, pickV_qO]
  refine wIf_intro (fun hz => ?_) (fun hz => ?_)
  · have g : x = 6 ∧ y = 6 := by simpa using hz
    rw [if_pos g] at hE
    simp (disch := omega) [wrap64]
    refine wC_loop (fun m fr H' => ∃ (q n : Nat), q ≤ i ∧ m = q ∧ n + q ≤ i ∧ riG c i = n + riG c q ∧ H' = H ∧ Slots 125 [(0, .sl b 0 c.length c.length 1), (7, .int .i64 n), (8, .int .i64 ((q : Int) - 1))] fr) (m := i) (by omega) ⟨i, 0, by omega, rfl, by omega, by omega, rfl, by simp⟩ ?_
    rintro m fr H' ⟨q, n, hq, hmq, hnq, hri, rfl, hs⟩
    replace hmq := hmq.symm
    subst hmq
    obtain ⟨j, rfl⟩ := hs.ex
    clear hs
    rcases q with _ | q
    · have hri2 : riG c i = n := by rw [hri]; rfl
      simp +contextual (disch := first | omega | (simp; done) | (simp [Decidable.imp_iff_not_or]; done) | fail) [-wG_bool, wG_q, wG_q2, wGq_some, wGq_true, wGq_false, gq_true, gq_false, pickV_qA, pickV_qO, wrap64, -getElem?_pos, hb, atI]
      rw [hE, hri2]
    · have e2 : ((q + 1 : Nat) : Int) - 1 = q := by omega
      have e3 : q < c.length := by omega
      rw [riG] at hri
      simp +contextual (disch := first | omega | (simp; done) | (simp [Decidable.imp_iff_not_or]; done) | fail) [-wG_bool, wG_q, wG_q2, wGq_some, wGq_true, wGq_false, gq_true, gq_false, pickV_qA, pickV_qO, wrap64, -getElem?_pos, hb, atI, e2, e3]
      refine wIf_intro (fun hz => ?_) (fun hz => ?_)
      · rw [if_pos (by simpa using hz)] at hri
        simp (disch := omega) [wrap64]
        exact Rnd_of (m' := q) (by omega) ⟨q, n + 1, by omega, rfl, by omega, by omega, rfl, by simp (disch := omega) [wrap64]⟩
      · rw [if_neg (by simpa using hz), Nat.add_zero] at hri
        simp (disch := omega)
        rw [hE, hri]
  have g : ¬ (x = 6 ∧ y = 6) := by simpa using hz
  rw [if_neg g] at hE
  simp [hE]
def cluT (c : List Int) : Nat → List Int
  | 0 => [0]
  | q + 1 => if prtB c (q + 1) = true then cluT c q ++ [((q + 1 : Nat) : Int)] else cluT c q
def cluS (t : List Int) : List Int := if t = [] then [] else cluT (t.map cBr) (t.length - 1) ++ [(t.length : Int)]
theorem cluT_len {c : List Int} : ∀ q, (cluT c q).length ≤ q + 1
  | 0 => by simp [cluT]
  | q + 1 => by
    have := cluT_len (c := c) q
    rw [cluT]
    split
    · simp; omega
    · omega
set_option maxHeartbeats 8000000 in
theorem clusE_ok (hp : ∀ f, Np5 f → prim f = none) (t : List Int) (ht : t.length ≤ 2000) (cfg : Cfg) (h : Heap) :
    callM md (K prim (d + 4)) cfg 72 [rl t] h = some (il (cluS t), h) := by
  refine call0 rfl (hp 72 (by decide)) Tryz.func72 rfl rfl rfl (by simp) ?_
  have ht2 : ¬ (2000 : Int) < t.length := by omega
  by_cases h0 : t = []
  · subst h0
    simp
    rfl
  have hpos : 0 < t.length := List.length_pos_iff.2 h0
  have h1 : ¬ (t.length : Int) = 0 := by omega
  have hB := fun cfg h r => cbr_ok (prim := prim) d hp cfg h r
  have hz : (List.replicate t.length (0 : Int)).length = t.length := by simp
  simp (disch := omega) [h0, ht2, zerosI, -List.map_replicate]
  generalize List.replicate t.length (0 : Int) = z0 at *
  have hFl : (t.map cBr).length = z0.length := by rw [hz]; simp
  have hFa : ∀ i, i < t.length → (t.map cBr)[i]? = some (cBr (lgI t i)) := fun i hi => by rw [List.getElem?_map, atI hi]; rfl
  refine wC_loop (fun m fr H => ∃ (i : Nat), i ≤ t.length ∧ m = t.length - i ∧ H = [some (((t.map cBr).take i ++ z0.drop i).map (V.int .i64))] ∧
    Slots 51 [(0, rl t), (3, .sl 0 0 t.length t.length 1), (19, rl t), (20, .int .i64 t.length), (21, .int .i64 i)] fr) (m := t.length) (by omega) ⟨0, by omega, by omega, by simp, by simp⟩ ?_
  rintro m fr H ⟨i, hi, rfl, rfl, hs⟩
  obtain ⟨j, rfl⟩ := hs.ex
  clear hs
  have hl1 := @tkdr_len _ _ _ hFl i
  rw [hz] at hl1
  by_cases hlt : i < t.length
  · have hle : i + 1 ≤ t.length := by omega
    have hse := tkdr_set hFl (hFa i hlt)
    generalize hS1 : (t.map cBr).take (i + 1) ++ z0.drop (i + 1) = st1 at *
    generalize (t.map cBr).take i ++ z0.drop i = st at *
    simp (disch := omega) [-List.map_set, hlt, hB, atI, setI, hl1, hle, wrap64, -getElem?_pos]
    exact Rnd_of (m' := t.length - (i + 1)) (by omega) ⟨i + 1, by omega, by omega, by rw [hS1, ← hse], by simp (disch := omega)⟩
  obtain rfl : i = t.length := by omega
  rw [tkdr_all hFl (by omega)]
  have hcl : (t.map cBr).length = t.length := by simp
  have hfin : cluS t = cluT (t.map cBr) (t.length - 1) ++ [(t.length : Int)] := by unfold cluS; rw [if_neg h0]
  generalize t.map cBr = c at *
  have hI0 : ¬ ((t.length : Int) < t.length) := by omega
  simp (disch := omega) [hI0]
  have g0 : Hp [some (c.map (V.int .i64))] [some (c.map (V.int .i64))] [] := Hp.start
  refine wC_loop (fun m fr H => ∃ (q : Nat) (v : V), q + 1 ≤ t.length ∧ m = t.length - (q + 1) ∧ Hp H [some (c.map (V.int .i64))] [(1, v, (cluT c q).map (V.int .i64))] ∧
    Slots 51 [(0, rl t), (3, .sl 0 0 t.length t.length 1), (6, v), (7, .int .i64 ((q : Int) + 1))] fr) (m := t.length - 1) (by omega) ⟨0, .sl 1 0 1 1 1, by omega, by omega, by simpa [cluT] using g0.new (cs := [V.int .i64 0]) (n := 1) (k := 1) rfl rfl [], by simp⟩ ?_
  rintro m fr H ⟨q, v, hq, rfl, hhp, hs⟩
  obtain ⟨j2, rfl⟩ := hs.ex
  clear hs
  have hll := cluT_len (c := c) q
  by_cases hlt : q + 1 < t.length
  · have hI : (q : Int) + 1 < t.length := by omega
    have hb0 : blockOf H 0 = some (c.map (V.int .i64)) := by rw [hhp.block (by simp)]; simp [blockOf]
    have hbd := fun cfg => parts_ok (prim := prim) (d + 1) hp H 0 c hb0 (by omega) (q + 1) (by omega) (by omega) cfg
    rw [hcl] at hbd
    have e1 : ((q + 1 : Nat) : Int) = (q : Int) + 1 := by omega
    rw [e1] at hbd
    have hT : cluT c (q + 1) = if prtB c (q + 1) = true then cluT c q ++ [((q + 1 : Nat) : Int)] else cluT c q := rfl
    cases hb : prtB c (q + 1)
    · rw [hb] at hbd hT
      rw [if_neg (by simp)] at hT
      simp (disch := omega) [hI, hbd, wrap64]
      exact Rnd_of (m' := t.length - (q + 1 + 1)) (by omega) ⟨q + 1, v, by omega, by omega, by rw [hT]; exact hhp, by simp (disch := omega)⟩
    · rw [hb] at hbd hT
      rw [if_pos rfl] at hT
      have hbn : blockOf (H ++ [some [V.int .i64 ((q : Int) + 1)]]) H.length = some [V.int .i64 ((q : Int) + 1)] := by rw [blockOf_len' rfl]; rfl
      simp (disch := omega) [hI, hbd, hbn, wrap64]
      refine wS_appO (m := 1) (hhp.push [some [V.int .i64 ((q : Int) + 1)]]) (by simp) rfl rfl (by omega) (by omega) (by simp; omega) (by simp; omega) ?_
      intro v' H' hhp2
      simp (disch := omega) [wrap64]
      exact Rnd_of (m' := t.length - (q + 1 + 1)) (by omega) ⟨q + 1, v', by omega, by omega, by rw [hT]; simpa using hhp2, by simp (disch := omega)⟩
  · have hI : ¬ (q : Int) + 1 < t.length := by omega
    obtain rfl : q = t.length - 1 := by omega
    have hbn : blockOf (H ++ [some [V.int .i64 (t.length : Int)]]) H.length = some [V.int .i64 (t.length : Int)] := by rw [blockOf_len' rfl]; rfl
    simp (disch := omega) [hI, hbn]
    refine wS_appO (m := 1) (hhp.push [some [V.int .i64 (t.length : Int)]]) (by simp) rfl rfl (by omega) (by omega) (by simp; omega) (by simp; omega) ?_
    intro v' H' hhp2
    have f1 := OwnC.frzI (d := 4) (kd := .i64) (l := cluT c (t.length - 1) ++ [(t.length : Int)]) (n := 0) (by simpa using hhp2.head) (Nat.zero_le _)
    simp (disch := omega)
    rw [f1, hfin]
end
end Bi
end Go.Ab
