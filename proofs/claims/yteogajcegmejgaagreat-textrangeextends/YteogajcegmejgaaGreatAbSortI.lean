/- Several texts of this proof in one. -/
import Derived.Test.YteogajcegmejgaaGreatPaLin
import Derived.Test.YteogajcegmejgaaGreatPiDis
import Derived.Test.YteogajcegmejgaaGreatPaRef
import Derived.Test.YteogajcegmejgaaGreatPiL
import Derived.Test.YteogajcegmejgaaGreatPaGen
import Derived.Test.YteogajcegmejgaaGreatPaRef9
import Derived.Test.YteogajcegmejgaaGreatAbW
import Derived.Shelf.Sort.Plain
namespace Go.Ab
open Go.Proofs
namespace Bi
section
variable {prim : FuncId → Option Prim} (d : Nat)
theorem fsok {p : Par} {fs : List Fnt} (h1 : fs.length ≤ 3) (h2 : ∀ f ∈ fs, FntOK f) (h3 : ParOK p 24 fs.length) : FsOK p fs := by
  refine ⟨by omega, fun f hf => ?_, fun s hs => ?_, ?_⟩
  · have h := h2 f hf
    have h4 := h.advL
    have h5 := h.kerL
    have h6 := h.ligL
    omega
  · have := h3.sp s hs
    omega
  · refine ⟨?_, by have := h3.sl; omega⟩
    rcases h3.cov with ⟨_, s, hs, _⟩ | ⟨ht, hc⟩
    · rw [hs]; simp
    · cases hs : p.s with
      | nil =>
        rw [hs] at hc
        have hc : (0 : Int) = p.t.length := hc
        exact absurd (List.eq_nil_of_length_eq_zero (by omega)) ht
      | cons s l => simp
set_option maxHeartbeats 4000000 in
theorem built_ok (hp : ∀ f, Np5 f → prim f = none) (L : List Int) (hL : L.length ≤ 4000) :
    ∃ (p : Par) (ls : List LinG) (k' : Nat), p.t.length ≤ 24 ∧ ls.length ≤ 3721 ∧ (∀ x ∈ ls, 0 ≤ x.l.f ∧ x.l.f ≤ p.t.length) ∧ k' ≤ L.length ∧
      callM md (K prim (d + 10)) ⟨0, none, 0⟩ 7 [.ptr 0 0] [some [il L, .int .i64 (0 : Nat)]] = some (.tup [.agg (parC p), .lst (ls.map linF)], [some [il L, .int .i64 k']]) := by
  suffices HH : ∃ r h2, callM md (K prim (d + 10)) ⟨0, none, 0⟩ 7 [.ptr 0 0] [some [il L, .int .i64 (0 : Nat)]] = some (r, h2) ∧ ∃ (p : Par) (ls : List LinG) (k' : Nat), p.t.length ≤ 24 ∧ ls.length ≤ 3721 ∧ (∀ x ∈ ls, 0 ≤ x.l.f ∧ x.l.f ≤ p.t.length) ∧ k' ≤ L.length ∧ r = .tup [.agg (parC p), .lst (ls.map linF)] ∧ h2 = [some [il L, .int .i64 k']] by
    obtain ⟨r, h2, h3, p, ls, k', h4, h5, h6, h7, rfl, rfl⟩ := HH
    exact ⟨p, ls, k', h4, h5, h6, h7, h3⟩
  obtain ⟨fs, k1, hf1, hf2, hf3, hk1, hF⟩ := fonts_ok (prim := prim) (d + 5) ⟨0, none, 1⟩ [some [il L, .int .i64 (0 : Nat)], some [.nils, .nils, .int .i64 0, .int .i64 0, .int .i64 0]] hp L 0 hL 0 ⟨rfl, Nat.zero_le _⟩ rfl (by simp)
  obtain ⟨p, k2, hp1, hk2, hP⟩ := par_ok (prim := prim) (d + 4) ⟨0, none, 1⟩ [some [il L, .int .i64 k1], some [.nils, .nils, .int .i64 0, .int .i64 0, .int .i64 0]] hp L k1 hL 0 ⟨rfl, hk1⟩ rfl (by simp) 24 fs.length (by omega) (by omega) (by omega)
  obtain ⟨_, ⟨ls, e, rfl, hl1, hl2⟩, hLn⟩ := lines9_ex (prim := prim) d hp p (by have := hp1.len; omega) fs (fsok hf2 hf3 hp1)
  have hlen := hp1.len
  refine call1x rfl (hp 7 (by decide)) Tryz.func7 rfl rfl rfl ?_
  simp only [List.set_cons_zero] at hF hP
  simp only [parC] at hP hLn
  rw [show ((0 : Nat) : Int) = 0 from rfl] at hF
  rw [show ((24 : Nat) : Int) = 24 from rfl] at hP
  simp (disch := omega) [hF, hP, hLn]
  exact ⟨p, hlen, ls, hl1, hl2, hk2, rfl, rfl⟩
end
end Bi
end Go.Ab
namespace Go.Ab
open Go.Proofs
namespace Bi
attribute [local congr] wGq_congr
section
variable {prim : FuncId → Option Prim} (d : Nat)
def cBr (r : Int) : Int := IntKind.i64.wrap (findS r).2.2.1
def cWd (r : Int) : Int := IntKind.i64.wrap (findS r).2.2.2.1
def cLn (r : Int) : Int := IntKind.i64.wrap (findS r).2.2.2.2.1
theorem cbr_ok (hp : ∀ f, Np5 f → prim f = none) (cfg : Cfg) (h : Heap) (r : Int) : callM md (K prim (d + 3)) cfg 42 [.int .i32 r] h = some (.int .i64 (cBr r), h) := by
  refine call0 rfl (hp 42 (by decide)) Tryz.func42 rfl rfl rfl (by simp) ?_
  have hf := fun cfg h => find_ok (prim := prim) d cfg h hp r
  unfold cBr
  generalize findS r = x at hf ⊢
  obtain ⟨a, b, c, d, e, f, g⟩ := x
  simp only [rowC] at hf
  simp [hf]
theorem cwd_ok (hp : ∀ f, Np5 f → prim f = none) (cfg : Cfg) (h : Heap) (r : Int) : callM md (K prim (d + 3)) cfg 72 [.int .i32 r] h = some (.int .i64 (cWd r), h) := by
  refine call0 rfl (hp 72 (by decide)) Tryz.func72 rfl rfl rfl (by simp) ?_
  have hf := fun cfg h => find_ok (prim := prim) d cfg h hp r
  unfold cWd
  generalize findS r = x at hf ⊢
  obtain ⟨a, b, c, d, e, f, g⟩ := x
  simp only [rowC] at hf
  simp [hf]
theorem cln_ok (hp : ∀ f, Np5 f → prim f = none) (cfg : Cfg) (h : Heap) (r : Int) : callM md (K prim (d + 3)) cfg 46 [.int .i32 r] h = some (.int .i64 (cLn r), h) := by
  refine call0 rfl (hp 46 (by decide)) Tryz.func46 rfl rfl rfl (by simp) ?_
  have hf := fun cfg h => find_ok (prim := prim) d cfg h hp r
  unfold cLn
  generalize findS r = x at hf ⊢
  obtain ⟨a, b, c, d, e, f, g⟩ := x
  simp only [rowC] at hf
  simp [hf]
theorem ctl_ex (hp : ∀ f, Np5 f → prim f = none) (x : Int) : ∃ r, IsB r ∧ ∀ cfg h, callM md (K prim (d + 1)) cfg 70 [.int .i64 x] h = some (r, h) := by
  refine call0e rfl (hp 70 (by decide)) Tryz.func70 rfl rfl rfl (by simp) ?_
  simp +contextual (disch := first | omega | (simp; done) | (simp [Decidable.imp_iff_not_or]; done) | fail) [-wG_bool, wG_q, wGq_some, gq_true, pickV_qO, -getElem?_pos]
set_option maxHeartbeats 4000000 in
theorem pict_ex (hp : ∀ f, Np5 f → prim f = none) (H : Heap) (b : Nat) (c : List Int) (hb : blockOf H b = some (c.map (V.int .i64))) (hc : c.length ≤ 2000) (i : Nat) (h1 : 0 < i) (hi : i < c.length) :
    ∃ z : Bool, ∀ cfg, callM md (K prim (d + 1)) cfg 71 [.sl b 0 c.length c.length 1, .int .i64 i] H = some (.bool z, H) := by
  suffices HH : ∃ r h2, (∀ cfg, callM md (K prim (d + 1)) cfg 71 [.sl b 0 c.length c.length 1, .int .i64 i] H = some (r, h2)) ∧ (IsB r ∧ h2 = H) by
    obtain ⟨_, _, h, ⟨z, rfl⟩, rfl⟩ := HH
    exact ⟨z, h⟩
  refine call0rx (Post := fun r h2 => IsB r ∧ h2 = H) rfl (hp 71 (by decide)) Tryz.func71 rfl rfl rfl (by simp) ?_
  have e1 : (i : Int) - 1 = ((i - 1 : Nat) : Int) := by omega
  have hl1 : i - 1 < c.length := by omega
  simp +contextual (disch := first | omega | (simp; done) | (simp [Decidable.imp_iff_not_or]; done) | fail) [-wG_bool, wrap64, -getElem?_pos, hb, e1, atI]
  refine wIf_intro (fun _ => by simp) (fun _ => ?_)
  simp (disch := omega) [wrap64]
  refine wC_loop (fun m fr H' => ∃ q : Nat, q ≤ i - 1 ∧ m = q ∧ H' = H ∧ Slots 35 [(0, .sl b 0 c.length c.length 1), (5, .int .i64 ((q : Int) - 1))] fr) (m := i - 1) (by omega) ⟨i - 1, by omega, rfl, rfl, by simp⟩ ?_
  rintro m fr H' ⟨q, hq, hmq, rfl, hs⟩
  replace hmq := hmq.symm
  subst hmq
  obtain ⟨j, rfl⟩ := hs.ex
  clear hs
  simp +contextual (disch := first | omega | (simp; done) | (simp [Decidable.imp_iff_not_or]; done) | fail) [-wG_bool, wG_q, wGq_some, gq_true, pickV_qA, -getElem?_pos, hb, atI]
  refine wIf_intro (fun hb => ?_) (fun _ => ?_)
  · have hq1 : 1 ≤ q := by simp at hb; omega
    simp (disch := omega) [wrap64]
    exact Rnd_of (m' := q - 1) (by omega) ⟨q - 1, by omega, rfl, rfl, by simp; omega⟩
  · simp +contextual (disch := first | omega | (simp; done) | (simp [Decidable.imp_iff_not_or]; done) | fail) [-wG_bool, wG_q, wGq_some, gq_true, pickV_qA, -getElem?_pos, hb, atI]
set_option maxRecDepth 100000 in
set_option maxHeartbeats 8000000 in
theorem parts_ex (hp : ∀ f, Np5 f → prim f = none) (H : Heap) (b : Nat) (c : List Int) (hb : blockOf H b = some (c.map (V.int .i64))) (hc : c.length ≤ 2000) (i : Nat) (h1 : 0 < i) (hi : i < c.length) :
    ∃ z : Bool, ∀ cfg, callM md (K prim (d + 2)) cfg 43 [.sl b 0 c.length c.length 1, .int .i64 i] H = some (.bool z, H) := by
  suffices HH : ∃ r h2, (∀ cfg, callM md (K prim (d + 2)) cfg 43 [.sl b 0 c.length c.length 1, .int .i64 i] H = some (r, h2)) ∧ (IsB r ∧ h2 = H) by
    obtain ⟨_, _, h, ⟨z, rfl⟩, rfl⟩ := HH
    exact ⟨z, h⟩
  refine call0rx (Post := fun r h2 => IsB r ∧ h2 = H) rfl (hp 43 (by decide)) Tryz.func43 rfl rfl rfl (by simp) ?_
  have e1 : (i : Int) - 1 = ((i - 1 : Nat) : Int) := by omega
  have hl1 : i - 1 < c.length := by omega
  obtain ⟨x, hx⟩ : ∃ x, c[i - 1]? = some x := ⟨_, List.getElem?_eq_getElem hl1⟩
  obtain ⟨y, hy⟩ : ∃ x, c[i]? = some x := ⟨_, List.getElem?_eq_getElem hi⟩
  obtain ⟨_, ⟨z1, rfl⟩, hC1⟩ := ctl_ex (prim := prim) d hp x
  obtain ⟨_, ⟨z2, rfl⟩, hC2⟩ := ctl_ex (prim := prim) d hp y
  obtain ⟨z3, hP⟩ := pict_ex (prim := prim) d hp H b c hb hc i h1 hi
  simp
  refine wC_draw 10 (by kernel_rfl) ?_
  simp +contextual (disch := first | omega | (simp; done) | (simp [Decidable.imp_iff_not_or]; done) | fail) [-wG_bool, wG_q, wGq_some, gq_true, pickV_qA, wrap64, -getElem?_pos, hb, e1, hx, hy]
  refine wIf_intro (fun _ => by simp) (fun _ => ?_)
  simp +contextual (disch := first | omega | (simp; done) | (simp [Decidable.imp_iff_not_or]; done) | fail) [-wG_bool, wG_q, wGq_some, gq_true, pickV_qO, hC1, hC2]
  refine wIf_intro (fun _ => by simp) (fun _ => ?_)
  iterate 4
    simp +contextual (disch := first | omega | (simp; done) | (simp [Decidable.imp_iff_not_or]; done) | fail) [-wG_bool, wG_q, wG_q2, wGq_some, gq_true, gq_false, pickV_qA, pickV_qO]
    refine wIf_intro (fun _ => by simp) (fun _ => ?_)
  simp +contextual (disch := first | omega | (simp; done) | (simp [Decidable.imp_iff_not_or]; done) | fail) [-wG_bool, wG_q, wGq_some, gq_true, pickV_qA, hP]
  refine wIf_intro (fun _ => by simp) (fun _ => ?_)
  simp +contextual (disch := first | omega | (simp; done) | (simp [Decidable.imp_iff_not_or]; done) | fail) [-wG_bool, wG_q, wGq_some, gq_true, gq_false, pickV_qA]
  refine wIf_intro (fun _ => ?_) (fun _ => by simp)
  simp (disch := omega) [wrap64]
  refine wC_loop (fun m fr H' => ∃ (q : Nat) (n : Int), q ≤ i ∧ m = q ∧ H' = H ∧ Slots 125 [(0, .sl b 0 c.length c.length 1), (7, .int .i64 n), (8, .int .i64 ((q : Int) - 1))] fr) (m := i) (by omega) ⟨i, 0, by omega, rfl, rfl, by simp⟩ ?_
  rintro m fr H' ⟨q, n, hq, hmq, rfl, hs⟩
  replace hmq := hmq.symm
  subst hmq
  obtain ⟨j, rfl⟩ := hs.ex
  clear hs
  simp +contextual (disch := first | omega | (simp; done) | (simp [Decidable.imp_iff_not_or]; done) | fail) [-wG_bool, wG_q, wGq_some, gq_true, pickV_qA, -getElem?_pos, hb, atI]
  refine wIf_intro (fun hb => ?_) (fun _ => ?_)
  · have hq1 : 1 ≤ q := by simp at hb; omega
    simp (disch := omega) [wrap64]
    exact Rnd_of (m' := q - 1) (by omega) ⟨q - 1, IntKind.i64.wrap (n + 1), by omega, rfl, rfl, by simp; omega⟩
  · simp
set_option maxHeartbeats 8000000 in
theorem clusP_ex (hp : ∀ f, Np5 f → prim f = none) (t : List Int) (ht : t.length ≤ 2000) :
    ∃ r, (∃ l : List Int, r = il l ∧ l.length ≤ t.length + 1 ∧ ∀ x ∈ l, 0 ≤ x ∧ x ≤ t.length) ∧ ∀ cfg h, callM md (K prim (d + 4)) cfg 21 [rl t] h = some (r, h) := by
  refine call0e rfl (hp 21 (by decide)) Tryz.func21 rfl rfl rfl (by simp) ?_
  have ht2 : ¬ (2000 : Int) < t.length := by omega
  by_cases h0 : t = []
  · subst h0
    simp
  have hpos : 0 < t.length := List.length_pos_iff.2 h0
  have h1 : ¬ (t.length : Int) = 0 := by omega
  have hB := fun cfg h r => cbr_ok (prim := prim) d hp cfg h r
  simp (disch := omega) [h0, ht2, zerosI]
  refine wC_loop (fun m fr H => ∃ (i : Nat) (c : List Int), i ≤ t.length ∧ m = t.length - i ∧ c.length = t.length ∧ H = [some (c.map (V.int .i64))] ∧
    Slots 51 [(0, rl t), (3, .sl 0 0 t.length t.length 1), (19, rl t), (20, .int .i64 t.length), (21, .int .i64 i)] fr) (m := t.length) (by omega) ⟨0, List.replicate t.length 0, by omega, by omega, by simp, by simp, by simp⟩ ?_
  rintro m fr H ⟨i, c, hi, rfl, hc, rfl, hs⟩
  obtain ⟨j, rfl⟩ := hs.ex
  clear hs
  by_cases hlt : i < t.length
  · have hle : i + 1 ≤ t.length := by omega
    simp (disch := omega) [-List.map_set, hlt, hB, atI, hc, hle, wrap64, -getElem?_pos]
    exact Rnd_of (m' := t.length - (i + 1)) (by omega) ⟨i + 1, c.set i (cBr (lgI t i)), by omega, by omega, by simpa using hc, rfl, by simp (disch := omega)⟩
  obtain rfl : i = t.length := by omega
  simp (disch := omega)
  have g0 : Hp [some (c.map (V.int .i64))] [some (c.map (V.int .i64))] [] := Hp.start
  refine wC_loop (fun m fr H => ∃ (q : Nat) (v : V) (l : List Int), q + 1 ≤ t.length ∧ m = t.length - (q + 1) ∧ l.length ≤ q + 1 ∧ (∀ x ∈ l, 0 ≤ x ∧ x ≤ t.length) ∧ Hp H [some (c.map (V.int .i64))] [(1, v, l.map (V.int .i64))] ∧
    Slots 51 [(0, rl t), (3, .sl 0 0 t.length t.length 1), (6, v), (7, .int .i64 ((q : Int) + 1))] fr) (m := t.length - 1) (by omega) ⟨0, .sl 1 0 1 1 1, [0], by omega, by omega, by simp, by simp, by simpa using g0.new (cs := [V.int .i64 0]) (n := 1) (k := 1) rfl rfl [], by simp⟩ ?_
  rintro m fr H ⟨q, v, l, hq, rfl, hll, hlr, hhp, hs⟩
  obtain ⟨j2, rfl⟩ := hs.ex
  clear hs
  by_cases hlt : q + 1 < t.length
  · have hI : (q : Int) + 1 < t.length := by omega
    have hb0 : blockOf H 0 = some (c.map (V.int .i64)) := by rw [hhp.block (by simp)]; simp [blockOf]
    obtain ⟨b, hbd⟩ := parts_ex (prim := prim) (d + 1) hp H 0 c hb0 (by omega) (q + 1) (by omega) (by omega)
    rw [hc] at hbd
    have e1 : ((q + 1 : Nat) : Int) = (q : Int) + 1 := by omega
    rw [e1] at hbd
    cases b
    · simp (disch := omega) [hI, hbd, wrap64]
      exact Rnd_of (m' := t.length - (q + 1 + 1)) (by omega) ⟨q + 1, v, l, by omega, by omega, by omega, hlr, hhp, by simp (disch := omega)⟩
    · have hbn : blockOf (H ++ [some [V.int .i64 ((q : Int) + 1)]]) H.length = some [V.int .i64 ((q : Int) + 1)] := by rw [blockOf_len' rfl]; rfl
      simp (disch := omega) [hI, hbd, hbn]
      refine wS_appO (m := 1) (hhp.push [some [V.int .i64 ((q : Int) + 1)]]) (by simp) rfl rfl (by omega) (by omega) (by simp; omega) (by simp; omega) ?_
      intro v' H' hhp2
      simp (disch := omega) [wrap64]
      refine Rnd_of (m' := t.length - (q + 1 + 1)) (by omega) ⟨q + 1, v', l ++ [(q : Int) + 1], by omega, by omega, by simp; omega, ?_, by simpa using hhp2, by simp (disch := omega)⟩
      intro x hx
      rcases List.mem_append.1 hx with hx | hx
      · exact hlr x hx
      · simp at hx; omega
  · have hI : ¬ (q : Int) + 1 < t.length := by omega
    have hbn : blockOf (H ++ [some [V.int .i64 (t.length : Int)]]) H.length = some [V.int .i64 (t.length : Int)] := by rw [blockOf_len' rfl]; rfl
    simp (disch := omega) [hI, hbn]
    refine wS_appO (m := 1) (hhp.push [some [V.int .i64 (t.length : Int)]]) (by simp) rfl rfl (by omega) (by omega) (by simp; omega) (by simp; omega) ?_
    intro v' H' hhp2
    have f1 := OwnC.frzI (d := 4) (kd := .i64) (l := l ++ [(t.length : Int)]) (n := 0) (by simpa using hhp2.head) (Nat.zero_le _)
    simp (disch := omega)
    refine ⟨_, f1, _, rfl, by simp; omega, ?_⟩
    intro x hx
    rcases List.mem_append.1 hx with hx | hx
    · exact hlr x hx
    · simp at hx; omega
end
end Bi
end Go.Ab
namespace Go.Ab.Tx
abbrev Up (b : List Int) : Prop := b.Pairwise (· < ·)
def whF (f n : Int) : List Int → Int → Int
  | [], o => o
  | x :: b, o => whF f n b (if x ≤ f ∧ x < n then x else o)
def whT (o t n : Int) : List Int → Int
  | [] => n
  | x :: b => if o < x ∧ t ≤ x then x else whT o t n b
theorem whF_no {f n : Int} : ∀ {b : List Int} {o : Int}, (∀ x ∈ b, ¬ (x ≤ f ∧ x < n)) → whF f n b o = o
  | [], _, _ => rfl
  | x :: b, o, h => by
    rw [whF, if_neg (h x (List.mem_cons_self ..)), whF_no fun y hy => h y (List.mem_cons_of_mem _ hy)]
theorem whF_max {f n : Int} : ∀ {b : List Int} {o : Int}, Up b → (∃ x ∈ b, x ≤ f ∧ x < n) → whF f n b o ∈ b ∧ whF f n b o ≤ f ∧ whF f n b o < n ∧ ∀ x ∈ b, x ≤ f → x < n → x ≤ whF f n b o
  | [], _, _, ⟨x, hx, _⟩ => by simp at hx
  | y :: b, o, hu, hex => by
    have hu' := List.pairwise_cons.1 hu
    rw [whF]
    by_cases h : ∃ x ∈ b, x ≤ f ∧ x < n
    · obtain ⟨h1, h2, h3, h4⟩ := whF_max (o := if y ≤ f ∧ y < n then y else o) hu'.2 h
      refine ⟨List.mem_cons_of_mem _ h1, h2, h3, fun x hx hxf hxn => ?_⟩
      rcases List.mem_cons.1 hx with rfl | hx
      · have := hu'.1 _ h1; omega
      · exact h4 x hx hxf hxn
    · have hy : y ≤ f ∧ y < n := by
        obtain ⟨x, hx, hx2⟩ := hex
        rcases List.mem_cons.1 hx with rfl | hx
        · exact hx2
        · exact absurd ⟨x, hx, hx2⟩ h
      have hno : ∀ x ∈ b, ¬ (x ≤ f ∧ x < n) := fun x hx hx2 => h ⟨x, hx, hx2⟩
      rw [whF_no hno, if_pos hy]
      refine ⟨List.mem_cons_self .., hy.1, hy.2, fun x hx hxf hxn => ?_⟩
      rcases List.mem_cons.1 hx with rfl | hx
      · exact Int.le_refl _
      · exact absurd ⟨hxf, hxn⟩ (hno x hx)
theorem whT_min {o t n : Int} : ∀ {b : List Int}, Up b → (∃ x ∈ b, o < x ∧ t ≤ x) → whT o t n b ∈ b ∧ o < whT o t n b ∧ t ≤ whT o t n b ∧ ∀ x ∈ b, o < x → t ≤ x → whT o t n b ≤ x
  | [], _, ⟨x, hx, _⟩ => by simp at hx
  | y :: b, hu, hex => by
    have hu' := List.pairwise_cons.1 hu
    rw [whT]
    by_cases h : o < y ∧ t ≤ y
    · rw [if_pos h]
      refine ⟨List.mem_cons_self .., h.1, h.2, fun x hx _ _ => ?_⟩
      rcases List.mem_cons.1 hx with rfl | hx
      · exact Int.le_refl _
      · have := hu'.1 x hx; omega
    · rw [if_neg h]
      have hex' : ∃ x ∈ b, o < x ∧ t ≤ x := by
        obtain ⟨x, hx, hx2⟩ := hex
        rcases List.mem_cons.1 hx with rfl | hx
        · exact absurd hx2 h
        · exact ⟨x, hx, hx2⟩
      obtain ⟨h1, h2, h3, h4⟩ := whT_min (n := n) hu'.2 hex'
      refine ⟨List.mem_cons_of_mem _ h1, h2, h3, fun x hx hxo hxt => ?_⟩
      rcases List.mem_cons.1 hx with rfl | hx
      · exact absurd ⟨hxo, hxt⟩ h
      · exact h4 x hx hxo hxt
structure Bnd (b : List Int) (n : Int) : Prop where
  up : Up b
  zero : 0 ∈ b
  all : n ∈ b
  rng : ∀ x ∈ b, 0 ≤ x ∧ x ≤ n
theorem Bnd.first {b : List Int} {n : Int} (h : Bnd b n) : b[0]? = some 0 := by
  cases hb : b with
  | nil => have := h.zero; rw [hb] at this; simp at this
  | cons x r =>
    have hu := h.up
    rw [hb] at hu
    have hx := h.rng x (by rw [hb]; exact List.mem_cons_self ..)
    have h0 := h.zero
    rw [hb] at h0
    rcases List.mem_cons.1 h0 with h0 | h0
    · rw [← h0]; rfl
    · have := (List.pairwise_cons.1 hu).1 0 h0; omega
theorem Bnd.last {b : List Int} {n : Int} (h : Bnd b n) : b[b.length - 1]? = some n := by
  obtain ⟨i, hi⟩ := List.mem_iff_getElem?.1 h.all
  obtain ⟨hl, he⟩ := List.getElem?_eq_some_iff.1 hi
  by_cases hil : i = b.length - 1
  · rw [← hil]; exact hi
  · have hp := List.pairwise_iff_getElem.1 h.up i (b.length - 1) hl (by omega) (by omega)
    have := h.rng _ (List.getElem_mem (show b.length - 1 < b.length by omega))
    omega
theorem whole_ok {b : List Int} {n f t : Int} (h : Bnd b n) (hn : 0 < n) (h0 : 0 ≤ f) (htn : t ≤ n) :
    let x := whF f n b 0
    let y := whT x t n b
    x ∈ b ∧ y ∈ b ∧ x ≤ f ∧ t ≤ y ∧ x < y ∧ whF x n b 0 = x ∧ whT x y n b = y := by
  intro x y
  obtain ⟨h1, h2, h3, h4⟩ := whF_max (f := f) (n := n) (o := 0) h.up ⟨0, h.zero, h0, hn⟩
  obtain ⟨g1, g2, g3, g4⟩ := whT_min (o := x) (t := t) (n := n) h.up ⟨n, h.all, h3, htn⟩
  refine ⟨h1, g1, h2, g3, g2, ?_, ?_⟩
  · obtain ⟨k1, k2, k3, k4⟩ := whF_max (f := x) (n := n) (o := 0) h.up ⟨x, h1, Int.le_refl _, h3⟩
    have := k4 x h1 (Int.le_refl _) h3
    omega
  · obtain ⟨k1, k2, k3, k4⟩ := whT_min (o := x) (t := y) (n := n) h.up ⟨y, g1, g2, Int.le_refl _⟩
    have := k4 y g1 g2 (Int.le_refl _)
    omega
end Go.Ab.Tx
namespace Go.Ab
open Go.Proofs
namespace Bi
attribute [local congr] wGq_congr
section
variable {prim : FuncId → Option Prim} (d : Nat)
theorem tvalid_ok (hp : ∀ f, Np5 f → prim f = none) (cfg : Cfg) (h : Heap) (a b n : Int) : callM md (K prim (d + 1)) cfg 19 [.agg [.int .i64 a, .int .i64 b], .int .i64 n] h = some (.bool (decide (0 ≤ a) && decide (a ≤ b) && decide (b ≤ n)), h) := by
  refine call0 rfl (hp 19 (by decide)) Tryz.func19 rfl rfl rfl (by simp) ?_
  simp
  by_cases h1 : 0 ≤ a <;> by_cases h2 : a ≤ b <;> simp [h1, h2]
set_option maxHeartbeats 4000000 in
theorem paras_ex (hp : ∀ f, Np5 f → prim f = none) (t : List Int) (ht : t.length ≤ 2000) :
    ∃ r, (∃ l : List Int, r = il l ∧ l.length ≤ t.length ∧ ∀ x ∈ l, 0 ≤ x ∧ x ≤ t.length) ∧ ∀ cfg h, callM md (K prim (d + 4)) cfg 23 [rl t] h = some (r, h) := by
  refine call0e rfl (hp 23 (by decide)) Tryz.func23 rfl rfl rfl (by simp) ?_
  have hL := fun cfg h r => cln_ok (prim := prim) d hp cfg h r
  simp (disch := omega)
  have g0 : Hp [] [] [] := Hp.start
  refine wC_loop (fun m fr H => ∃ (i : Nat) (v : V) (l : List Int), i ≤ t.length ∧ m = t.length - i ∧ l.length ≤ i ∧ (∀ x ∈ l, 0 ≤ x ∧ x ≤ t.length) ∧ Hp H [] [(1, v, l.map (V.int .i64))] ∧
    Slots 43 [(0, rl t), (3, v), (6, rl t), (7, .int .i64 t.length), (8, .int .i64 i)] fr) (m := t.length) (by omega) ⟨0, .nils, [], by omega, by omega, by simp, by simp, g0.nil 1, by simp⟩ ?_
  rintro m fr H ⟨i, v, l, hi, rfl, hll, hlr, hhp, hs⟩
  obtain ⟨j, rfl⟩ := hs.ex
  clear hs
  by_cases hlt : i < t.length
  · have hiw : IntKind.i64.wrap ((i : Int) + 1) = ((i + 1 : Nat) : Int) := by rw [wrap64 (by omega) (by omega)]; omega
    obtain ⟨x, hx⟩ : ∃ x, t[i]? = some x := ⟨_, List.getElem?_eq_getElem hlt⟩
    simp (disch := omega) [hlt, -wC_block, -getElem?_pos]
    refine wC_mid (fun fr' H2 => ∃ (v : V) (l : List Int), l.length ≤ i + 1 ∧ (∀ x ∈ l, 0 ≤ x ∧ x ≤ t.length) ∧ Hp H2 [] [(1, v, l.map (V.int .i64))] ∧ Slots 43 [(0, rl t), (3, v), (6, rl t), (7, .int .i64 t.length), (8, .int .i64 i)] fr') ?_ ?_
    · rw [wC_block]
      simp (disch := omega) [hx, hL, -wC_block, -getElem?_pos]
      rw [wC_block, wC_seq]
      refine wC_mid (fun fr' H2 => H2 = H ∧ ∃ z : Bool, Slots 43 [(0, rl t), (3, v), (4, .int .i64 i), (5, .int .i32 x), (6, rl t), (7, .int .i64 t.length), (8, .int .i64 i), (15, .bool z)] fr') ?_ ?_
      · simp (disch := omega)
        refine wIf_intro (fun hb => ?_) (fun _ => ?_)
        · simp
          exact Mid_of ⟨rfl, true, by simpa using hb⟩
        · simp
          refine wIf_intro (fun hb => ?_) (fun _ => ?_)
          · simp
            exact Mid_of ⟨rfl, true, by simpa using hb⟩
          · simp
            exact Mid_of ⟨rfl, decide (cLn x = 3), by simp⟩
      rintro fr H2 ⟨rfl, z, hs⟩
      obtain ⟨j, rfl⟩ := hs.ex
      clear hs
      cases z
      · simp
        exact Mid_of ⟨v, l, by omega, hlr, hhp, by simp⟩
      simp +contextual (disch := first | omega | (simp; done) | (simp [Decidable.imp_iff_not_or]; done) | fail) [-wG_bool, wG_q, wGq_some, gq_true, pickV_qO, hiw, atI, -getElem?_pos]
      refine wIf_intro (fun _ => ?_) (fun _ => ?_)
      · have hbn : blockOf (H2 ++ [some [V.int .i64 ((i + 1 : Nat) : Int)]]) H2.length = some [V.int .i64 ((i + 1 : Nat) : Int)] := by rw [blockOf_len' rfl]; rfl
        simp (disch := omega) [hiw]
        refine wS_appO (m := 1) (hhp.push [some [V.int .i64 ((i + 1 : Nat) : Int)]]) (by simp) rfl rfl (by omega) (by omega) (by simp; omega) (by simp; omega) ?_
        intro v' H' hhp2
        simp (disch := omega)
        refine Mid_of ⟨v', l ++ [((i + 1 : Nat) : Int)], by simp; omega, ?_, by simpa using hhp2, by simp (disch := omega)⟩
        intro y hy
        rcases List.mem_append.1 hy with hy | hy
        · exact hlr y hy
        · simp at hy; omega
      · simp
        exact Mid_of ⟨v, l, by omega, hlr, hhp, by simp⟩
    clear hhp hlr hll
    rintro fr H2 ⟨v, l, hll, hlr, hhp, hs⟩
    obtain ⟨j, rfl⟩ := hs.ex
    clear hs
    simp (disch := omega) [hiw]
    exact Rnd_of (m' := t.length - (i + 1)) (by omega) ⟨i + 1, v, l, by omega, by omega, hll, hlr, hhp, by simp⟩
  · obtain rfl : i = t.length := by omega
    have f1 := OwnC.frzI (d := 4) (kd := .i64) (l := l) (n := 0) hhp.head (Nat.zero_le _)
    simp (disch := omega)
    exact ⟨_, f1, l, rfl, hll, hlr⟩
set_option maxHeartbeats 4000000 in
theorem whole_ex (hp : ∀ f, Np5 f → prim f = none) (cfg : Cfg) (h : Heap) (b : List Int) (hb : b.length ≤ 5000) (f t n : Int) :
    callM md (K prim (d + 1)) cfg 20 [il b, .agg [.int .i64 f, .int .i64 t], .int .i64 n] h = some (.agg [.int .i64 (Tx.whF f n b 0), .int .i64 (Tx.whT (Tx.whF f n b 0) t n b)], h) := by
  refine call0 rfl (hp 20 (by decide)) Tryz.func20 rfl rfl rfl (by simp) ?_
  simp (disch := omega)
  refine wC_loop (fun m fr H => ∃ (i : Nat) (o : Int), i ≤ b.length ∧ m = b.length - i ∧ Tx.whF f n (b.drop i) o = Tx.whF f n b 0 ∧ H = [some [.int .i64 f, .int .i64 t], some [.int .i64 0, .int .i64 0], some [.int .i64 o, .int .i64 n]] ∧
    Slots 52 [(0, il b), (2, .int .i64 n), (4, .ptr 0 0), (6, .ptr 1 0), (7, .ptr 2 0), (14, il b), (15, .int .i64 b.length), (16, .int .i64 i)] fr) (m := b.length) (by omega) ⟨0, 0, by omega, by omega, rfl, rfl, by simp⟩ ?_
  rintro m fr H ⟨i, o, hi, rfl, ho, rfl, hs⟩
  obtain ⟨j, rfl⟩ := hs.ex
  clear hs
  by_cases hlt : i < b.length
  · obtain ⟨x, hx⟩ : ∃ x, b[i]? = some x := ⟨_, List.getElem?_eq_getElem hlt⟩
    have hiw : IntKind.i64.wrap ((i : Int) + 1) = ((i + 1 : Nat) : Int) := by rw [wrap64 (by omega) (by omega)]; omega
    have hdr : b.drop i = x :: b.drop (i + 1) := by
      rw [List.drop_eq_getElem_cons hlt]
      congr 1
      exact (List.getElem?_eq_some_iff.1 hx).2
    rw [hdr, Tx.whF] at ho
    by_cases c1 : x ≤ f
    · by_cases c2 : x < n
      · rw [if_pos ⟨c1, c2⟩] at ho
        simp (disch := omega) [hlt, hx, c1, c2, hiw, -getElem?_pos]
        exact Rnd_of (m' := b.length - (i + 1)) (by omega) ⟨i + 1, x, by omega, by omega, ho, rfl, by simp⟩
      · rw [if_neg (fun h => c2 h.2)] at ho
        simp (disch := omega) [hlt, hx, c1, c2, hiw, -getElem?_pos]
        exact Rnd_of (m' := b.length - (i + 1)) (by omega) ⟨i + 1, o, by omega, by omega, ho, rfl, by simp⟩
    · rw [if_neg (fun h => c1 h.1)] at ho
      simp (disch := omega) [hlt, hx, c1, hiw, -getElem?_pos]
      exact Rnd_of (m' := b.length - (i + 1)) (by omega) ⟨i + 1, o, by omega, by omega, ho, rfl, by simp⟩
  obtain rfl : i = b.length := by omega
  rw [List.drop_eq_nil_of_le (Nat.le_refl _), Tx.whF] at ho
  rw [← ho]
  clear ho
  simp (disch := omega)
  refine wC_loop (fun m fr H => ∃ (i : Nat), i ≤ b.length ∧ m = b.length - i ∧ Tx.whT o t n (b.drop i) = Tx.whT o t n b ∧ H = [some [.int .i64 f, .int .i64 t], some [.int .i64 0, .int .i64 0], some [.int .i64 o, .int .i64 n]] ∧
    Slots 52 [(4, .ptr 0 0), (6, .ptr 1 0), (7, .ptr 2 0), (32, il b), (33, .int .i64 b.length), (34, .int .i64 i)] fr) (m := b.length) (by omega) ⟨0, by omega, by omega, rfl, rfl, by simp⟩ ?_
  rintro m fr H ⟨i, hi, rfl, ho, rfl, hs⟩
  obtain ⟨j, rfl⟩ := hs.ex
  clear hs
  by_cases hlt : i < b.length
  · obtain ⟨x, hx⟩ : ∃ x, b[i]? = some x := ⟨_, List.getElem?_eq_getElem hlt⟩
    have hiw : IntKind.i64.wrap ((i : Int) + 1) = ((i + 1 : Nat) : Int) := by rw [wrap64 (by omega) (by omega)]; omega
    have hdr : b.drop i = x :: b.drop (i + 1) := by
      rw [List.drop_eq_getElem_cons hlt]
      congr 1
      exact (List.getElem?_eq_some_iff.1 hx).2
    rw [hdr, Tx.whT] at ho
    by_cases c1 : o < x
    · by_cases c2 : t ≤ x
      · rw [if_pos ⟨c1, c2⟩] at ho
        rw [← ho]
        simp (disch := omega) [hlt, hx, c1, c2, -getElem?_pos]
      · rw [if_neg (fun h => c2 h.2)] at ho
        simp (disch := omega) [hlt, hx, c1, c2, hiw, -getElem?_pos]
        exact Rnd_of (m' := b.length - (i + 1)) (by omega) ⟨i + 1, by omega, by omega, ho, rfl, by simp⟩
    · rw [if_neg (fun h => c1 h.1)] at ho
      simp (disch := omega) [hlt, hx, c1, hiw, -getElem?_pos]
      exact Rnd_of (m' := b.length - (i + 1)) (by omega) ⟨i + 1, by omega, by omega, ho, rfl, by simp⟩
  obtain rfl : i = b.length := by omega
  rw [List.drop_eq_nil_of_le (Nat.le_refl _), Tx.whT] at ho
  rw [← ho]
  clear ho
  simp (disch := omega)
end
end Bi
end Go.Ab
namespace Go.Ab.Tx
structure Cp (l : List Int) (m : Nat) (r : List Int) : Prop where
  up : r.Pairwise (· < ·)
  mem : ∀ x, x ∈ r ↔ x ∈ l.take m
theorem take_le {l : List Int} (hs : l.Pairwise (· ≤ ·)) {m : Nat} {a x : Int} (ha : l[m]? = some a) (hx : x ∈ l.take (m + 1)) : x ≤ a := by
  obtain ⟨hl, he⟩ := List.getElem?_eq_some_iff.1 ha
  subst he
  obtain ⟨j, hj, rfl⟩ := List.getElem_of_mem hx
  simp only [List.getElem_take]
  simp at hj
  by_cases h : j = m
  · subst h; exact Int.le_refl _
  · exact List.pairwise_iff_getElem.1 hs j m (by omega) hl (by omega)
theorem mem_take_succ {l : List Int} {m : Nat} {a x : Int} (ha : l[m]? = some a) : x ∈ l.take (m + 1) ↔ x ∈ l.take m ∨ x = a := by
  rw [List.take_add_one, ha]
  simp
theorem Cp.one {l : List Int} {a : Int} (h : l[0]? = some a) : Cp l 1 [a] := ⟨by simp, fun x => by rw [mem_take_succ h]; simp⟩
theorem Cp.same {l r : List Int} {m : Nat} {a : Int} (h : Cp l (m + 1) r) (ha : l[m]? = some a) (hb : l[m + 1]? = some a) : Cp l (m + 2) r :=
  ⟨h.up, fun x => by
    rw [mem_take_succ hb, h.mem]
    refine ⟨.inl, fun hx => ?_⟩
    rcases hx with hx | rfl
    · exact hx
    · exact (mem_take_succ ha).2 (.inr rfl)⟩
theorem Cp.new {l r : List Int} {m : Nat} {a b : Int} (hs : l.Pairwise (· ≤ ·)) (h : Cp l (m + 1) r) (ha : l[m]? = some a) (hb : l[m + 1]? = some b) (hab : b ≠ a) : Cp l (m + 2) (r ++ [b]) := by
  have h1 := take_le hs hb ((mem_take_succ hb).2 (.inl ((mem_take_succ ha).2 (.inr rfl))))
  refine ⟨List.pairwise_append.2 ⟨h.up, by simp, fun x hx y hy => ?_⟩, fun x => ?_⟩
  · simp at hy
    subst hy
    have := take_le hs ha ((h.mem x).1 hx)
    omega
  · rw [mem_take_succ hb, List.mem_append, h.mem]
    simp
theorem Cp.pre {l : List Int} (hs : l.Pairwise (· ≤ ·)) : ∀ {m : Nat}, m < l.length → (∀ i, i < m → l[i + 1]? ≠ l[i]?) → Cp l (m + 1) (l.take (m + 1))
  | 0, hm, _ => by
    obtain ⟨a, ha⟩ : ∃ a, l[0]? = some a := ⟨_, List.getElem?_eq_getElem hm⟩
    have e : l.take 1 = [a] := by rw [List.take_add_one, ha]; simp
    rw [e]
    exact Cp.one ha
  | m + 1, hm, h => by
    have ih := Cp.pre hs (m := m) (by omega) fun i hi => h i (by omega)
    obtain ⟨a, ha⟩ : ∃ a, l[m]? = some a := ⟨_, List.getElem?_eq_getElem (by omega)⟩
    obtain ⟨b, hb⟩ : ∃ a, l[m + 1]? = some a := ⟨_, List.getElem?_eq_getElem hm⟩
    have hne := h m (by omega)
    have h2 := Cp.new hs ih ha hb (fun e => hne (by rw [ha, hb, e]))
    have e : l.take (m + 2) = l.take (m + 1) ++ [b] := by rw [List.take_add_one (i := m + 1), hb]; simp
    rw [e]
    exact h2
end Go.Ab.Tx
namespace Go.Ab
open Go.Proofs
theorem set_take {c : List Int} {K : Nat} {x : Int} (h : K < c.length) : (c.set K x).take (K + 1) = c.take K ++ [x] := by
  rw [List.take_add_one, List.getElem?_set_self h, List.take_set_of_le (Nat.le_refl _)]
  rfl
namespace Bi
section
variable {prim : FuncId → Option Prim} (d : Nat)
set_option maxHeartbeats 8000000 in
theorem compact_ex (hp : ∀ f, Np5 f → prim f = none) (l : List Int) (hl : l.length ≤ 5000) (h2 : 2 ≤ l.length) (hs : l.Pairwise (· ≤ ·)) (cfg : Cfg) (H : Heap) (b : Nat) (hb : blockOf H b = some (l.map (V.int .i64))) (hw : cfg.wr b = true) :
    ∃ r h', callM md (K prim (d + 1)) cfg 25 [.sl b 0 l.length l.length 1] H = some (r, h') ∧ ∃ (m : Nat) (c : List Int), r = .sl b 0 m l.length 1 ∧ c.length = l.length ∧ m ≤ l.length ∧ Tx.Cp l l.length (c.take m) ∧ h' = H.set b (some (c.map (V.int .i64))) := by
  refine call2x rfl (hp 25 (by decide)) Tryz.func25 rfl rfl rfl ?_
  have hbl := blockOf_lt hb
  have hset : H.set b (some (l.map (V.int .i64))) = H := by
    have h1 := live_of_blockOf hb
    obtain ⟨h2, h3⟩ := List.getElem?_eq_some_iff.1 h1
    rw [← h3, List.set_getElem_self]
  have hn2 : ¬ (l.length : Int) < 2 := by omega
  simp (disch := omega) [hn2]
  refine wC_loop (fun m fr H' => ∃ (k : Nat), 1 ≤ k ∧ k ≤ l.length ∧ m = l.length - k ∧ (∀ i, i + 1 < k → l[i + 1]? ≠ l[i]?) ∧ H' = H ∧ Slots 61 [(0, .sl b 0 l.length l.length 1), (3, .int .i64 k)] fr) (m := l.length - 1) (by omega) ⟨1, by omega, by omega, by omega, fun i h => by omega, rfl, by simp⟩ ?_
  rintro m fr H' ⟨k, hk1, hk2, rfl, hne, rfl, hs'⟩
  obtain ⟨j, rfl⟩ := hs'.ex
  clear hs'
  by_cases hlt : k < l.length
  · obtain ⟨x, hx⟩ : ∃ x, l[k]? = some x := ⟨_, List.getElem?_eq_getElem hlt⟩
    obtain ⟨y, hy⟩ : ∃ x, l[k - 1]? = some x := ⟨_, List.getElem?_eq_getElem (by omega)⟩
    have hkm : IntKind.i64.wrap ((k : Int) - 1) = ((k - 1 : Nat) : Int) := by rw [wrap64 (by omega) (by omega)]; omega
    have hkw : IntKind.i64.wrap ((k : Int) + 1) = ((k + 1 : Nat) : Int) := by rw [wrap64 (by omega) (by omega)]; omega
    simp (disch := omega) [hlt]
    refine wC_draw 9 (by kernel_rfl) ?_
    simp (disch := omega) [hb, hx, hy, hkm, -getElem?_pos]
    refine wIf_intro (fun hb1 => ?_) (fun hb1 => ?_)
    · simp at hb1
      subst hb1
      have hk0 : ¬ k = 0 := by omega
      have hkn : ¬ k = l.length := by omega
      simp (disch := omega) [hk0, hkn]
      have hc0 : Tx.Cp l (k + 1) (l.take k) := by
        have h := Tx.Cp.pre hs (m := k - 1) (by omega) fun i hi => hne i (by omega)
        rw [show k - 1 + 1 = k by omega] at h
        have h' := Tx.Cp.same (m := k - 1) (a := x) (by rw [show k - 1 + 1 = k by omega]; exact h) hy (by rw [show k - 1 + 1 = k by omega]; exact hx)
        rwa [show k - 1 + 2 = k + 1 by omega] at h'
      refine wC_loop (fun m fr H2 => ∃ (q K : Nat) (c : List Int), 1 ≤ q ∧ q ≤ l.length - k ∧ m = l.length - k - q ∧ k ≤ K ∧ K < k + q ∧ c.length = l.length ∧ Tx.Cp l (k + q) (c.take K) ∧ (∀ i, k + q ≤ i + 1 → c[i]? = l[i]?) ∧ H2 = H'.set b (some (c.map (V.int .i64))) ∧ Slots 61 [(0, .sl b 0 l.length l.length 1), (3, .int .i64 K), (4, .sl b k (l.length - k) (l.length - k) 1), (5, .int .i64 q)] fr) (m := l.length - k - 1) (by omega) ⟨1, k, l, by omega, by omega, by omega, by omega, by omega, rfl, hc0, fun _ _ => rfl, hset.symm, by simp⟩ ?_
      rintro m fr H2 ⟨q, K, c, hq1, hq2, rfl, hK1, hK2, hcl, hcp, hce, rfl, hs'⟩
      obtain ⟨j, rfl⟩ := hs'.ex
      clear hs'
      have hbc : blockOf (H'.set b (some (c.map (V.int .i64)))) b = some (c.map (V.int .i64)) := by rw [blockOf_set_self hbl]; simp
      have hsub : ((l.length - k : Nat) : Int) = (l.length : Int) - k := by omega
      by_cases hlq : q < l.length - k
      · obtain ⟨u, hu⟩ : ∃ x, l[k + q]? = some x := ⟨_, List.getElem?_eq_getElem (by omega)⟩
        obtain ⟨w, hw'⟩ : ∃ x, l[k + (q - 1)]? = some x := ⟨_, List.getElem?_eq_getElem (by omega)⟩
        have hcu : c[k + q]? = some u := by rw [hce _ (by omega), hu]
        have hcw : c[k + (q - 1)]? = some w := by rw [hce _ (by omega), hw']
        have hqm : IntKind.i64.wrap ((q : Int) - 1) = ((q - 1 : Nat) : Int) := by rw [wrap64 (by omega) (by omega)]; omega
        have hqw : IntKind.i64.wrap ((q : Int) + 1) = ((q + 1 : Nat) : Int) := by rw [wrap64 (by omega) (by omega)]; omega
        have hKw : IntKind.i64.wrap ((K : Int) + 1) = ((K + 1 : Nat) : Int) := by rw [wrap64 (by omega) (by omega)]; omega
        simp (disch := omega) [hlq]
        refine wC_draw 9 (by kernel_rfl) ?_
        simp (disch := omega) [hbc, hcu, hcw, hqm, -getElem?_pos]
        have e1 : k + q - 1 + 1 = k + q := by omega
        have e2 : k + q - 1 + 2 = k + (q + 1) := by omega
        have e3 : k + (q - 1) = k + q - 1 := by omega
        rw [e3] at hw'
        rw [← e1] at hcp hu
        refine wIf_intro (fun hb1 => ?_) (fun hb1 => ?_)
        · simp at hb1
          have h := Tx.Cp.new hs hcp hw' hu hb1
          rw [← set_take (by omega), e2] at h
          simp (disch := omega) [-List.map_set, hbc, hcl, hcu, hw, hKw, hqw, show K + 1 ≤ l.length by omega, -getElem?_pos]
          refine Rnd_of (m' := l.length - k - (q + 1)) (by omega) ⟨q + 1, K + 1, c.set K u, by omega, by omega, by omega, by omega, by omega, by simpa using hcl, h, fun i hi => ?_, rfl, by simp⟩
          rw [List.getElem?_set_ne (by omega)]
          exact hce i (by omega)
        · simp at hb1
          subst hb1
          have h := Tx.Cp.same hcp hw' hu
          rw [e2] at h
          simp (disch := omega) [hqw]
          exact Rnd_of (m' := l.length - k - (q + 1)) (by omega) ⟨q + 1, K, c, by omega, by omega, by omega, by omega, by omega, hcl, h, fun i hi => hce i (by omega), rfl, by simp⟩
      · have hlq' : k + q = l.length := by omega
        rw [hlq'] at hcp
        have hK0 : ¬ K = 0 := by omega
        have hKn : ¬ K = l.length := by omega
        have hlK : ¬ l.length - K = 0 := by omega
        have hsz : szOf Tryz.prog 3 = some 1 := by kernel_rfl
        have hadd : K + (l.length - K) ≤ l.length := by omega
        have hz : zerosFor [V.int .i64 0] (l.length - K) = (List.replicate (l.length - K) 0).map (V.int .i64) := zerosI _
        have hpt : putAt (c.map (V.int .i64)) K ((List.replicate (l.length - K) 0).map (V.int .i64)) = (c.take K ++ List.replicate (l.length - K) 0).map (V.int .i64) := by
          have h := putAt_mid ((List.replicate (l.length - K) (0 : Int)).map (V.int .i64)) ((c.map (V.int .i64)).take K) ((c.map (V.int .i64)).drop K) (by simp; omega)
          rw [List.take_append_drop, List.length_take, Nat.min_eq_left (by simp; omega)] at h
          rw [h, List.drop_eq_nil_of_le (by simp; omega), List.append_nil, List.map_append, List.map_take]
        simp (disch := omega) [-List.map_replicate, -List.map_append, hlq, hK0, hKn, clearV, hbc, hcl, hw, hlK, hsz, hz, hpt, vcells]
        refine ⟨c.take K ++ List.replicate (l.length - K) 0, by simp; omega, by omega, ?_, rfl⟩
        rw [List.take_append_of_le_length (by simp; omega), List.take_take, Nat.min_self]
        exact hcp
    · simp at hb1
      simp (disch := omega) [hkw]
      refine Rnd_of (m' := l.length - (k + 1)) (by omega) ⟨k + 1, by omega, by omega, by omega, fun i hi => ?_, rfl, by simp⟩
      by_cases hik : i + 1 = k
      · subst hik
        simp at hy
        rw [hx, hy]
        simpa using hb1
      · exact hne i (by omega)
  · obtain rfl : k = l.length := by omega
    simp (disch := omega)
    refine ⟨l, rfl, ?_, hset.symm⟩
    have h := Tx.Cp.pre hs (m := l.length - 1) (by omega) fun i hi => hne i (by omega)
    rwa [show l.length - 1 + 1 = l.length by omega] at h
end
end Bi
end Go.Ab
namespace Go.Ab
open Go.Proofs
namespace Bi
attribute [local congr] wGq_congr
def wdC (t raw c : List Int) : List V := [rl t, il raw, il c]
theorem wdslots (t raw c : List Int) : (wdC t raw c).all V.leaf = true ∧ (wdC t raw c).all V.noref = true ∧ isMap (wdC t raw c) = false ∧ slot (wdC t raw c) 0 = some (rl t) ∧ slot (wdC t raw c) 1 = some (il raw) ∧ slot (wdC t raw c) 2 = some (il c) ∧ (wdC t raw c).length = 3 ∧ (wdC t raw c).take 3 = wdC t raw c :=
  ⟨rfl, by simp [wdC], rfl, rfl, rfl, rfl, rfl, rfl⟩
section
variable {prim : FuncId → Option Prim} (d : Nat)
theorem ext_ex (hp : ∀ f, Np5 f → prim f = none) (x : Int) : ∃ r, IsB r ∧ ∀ cfg h, callM md (K prim (d + 1)) cfg 73 [.int .i64 x] h = some (r, h) := by
  refine call0e rfl (hp 73 (by decide)) Tryz.func73 rfl rfl rfl (by simp) ?_
  simp +contextual (disch := first | omega | (simp; done) | (simp [Decidable.imp_iff_not_or]; done) | fail) [-wG_bool, wG_q, wGq_some, gq_true, pickV_qO, -getElem?_pos]
theorem wdy_ex (hp : ∀ f, Np5 f → prim f = none) (x : Int) : ∃ r, IsB r ∧ ∀ cfg h, callM md (K prim (d + 1)) cfg 79 [.int .i64 x] h = some (r, h) := by
  refine call0e rfl (hp 79 (by decide)) Tryz.func79 rfl rfl rfl (by simp) ?_
  simp +contextual (disch := first | omega | (simp; done) | (simp [Decidable.imp_iff_not_or]; done) | fail) [-wG_bool, wG_q, wGq_some, gq_true, pickV_qO, -getElem?_pos]
theorem wp1_ex (hp : ∀ f, Np5 f → prim f = none) (x : Int) : ∃ r, IsB r ∧ ∀ cfg h, callM md (K prim (d + 1)) cfg 75 [.int .i64 x] h = some (r, h) := by
  refine call0e rfl (hp 75 (by decide)) Tryz.func75 rfl rfl rfl (by simp) ?_
  simp +contextual (disch := first | omega | (simp; done) | (simp [Decidable.imp_iff_not_or]; done) | fail) [-wG_bool, wG_q, wGq_some, gq_true, pickV_qO, -getElem?_pos]
theorem wp2_ex (hp : ∀ f, Np5 f → prim f = none) (x : Int) : ∃ r, IsB r ∧ ∀ cfg h, callM md (K prim (d + 1)) cfg 76 [.int .i64 x] h = some (r, h) := by
  refine call0e rfl (hp 76 (by decide)) Tryz.func76 rfl rfl rfl (by simp) ?_
  simp +contextual (disch := first | omega | (simp; done) | (simp [Decidable.imp_iff_not_or]; done) | fail) [-wG_bool, wG_q, wGq_some, gq_true, pickV_qO, -getElem?_pos]
theorem wp3_ex (hp : ∀ f, Np5 f → prim f = none) (x : Int) : ∃ r, IsB r ∧ ∀ cfg h, callM md (K prim (d + 1)) cfg 78 [.int .i64 x] h = some (r, h) := by
  refine call0e rfl (hp 78 (by decide)) Tryz.func78 rfl rfl rfl (by simp) ?_
  simp +contextual (disch := first | omega | (simp; done) | (simp [Decidable.imp_iff_not_or]; done) | fail) [-wG_bool, wG_q, wGq_some, gq_true, pickV_qO, -getElem?_pos]
set_option maxHeartbeats 4000000 in
theorem bef_ex (hp : ∀ f, Np5 f → prim f = none) (t raw c : List Int) (hc : c.length ≤ 2000) (i : Int) (h1 : -1 ≤ i) (h2 : i ≤ c.length) :
    ∃ v, (∃ z k : Int, v = .tup [.int .i64 z, .int .i64 k] ∧ (z = -1 ∧ k = -1 ∨ 0 ≤ k ∧ k < i)) ∧ ∀ cfg h, callM md (K prim (d + 1)) cfg 74 [.agg (wdC t raw c), .int .i64 i] h = some (v, h) := by
  obtain ⟨hlf, hnr, hmp, s0, s1, s2, l3, t3⟩ := wdslots t raw c
  refine call0e rfl (hp 74 (by decide)) Tryz.func74 rfl rfl rfl (by simp [wdC]) ?_
  simp (disch := omega) [hlf, wrap64, -getElem?_pos]
  refine wC_loop (fun m fr H => ∃ x : Int, -2 ≤ x ∧ x < i ∧ m = (x + 1).toNat ∧ H = [some (wdC t raw c)] ∧ Slots 24 [(1, .int .i64 x), (2, .ptr 0 0)] fr) (m := i.toNat) (by omega) ⟨i - 1, by omega, by omega, by omega, rfl, by simp⟩ ?_
  rintro m fr H ⟨x, hx1, hx2, rfl, rfl, hs⟩
  obtain ⟨j, rfl⟩ := hs.ex
  clear hs
  by_cases hx : 0 ≤ x
  · obtain ⟨q, rfl⟩ : ∃ q : Nat, x = q := ⟨x.toNat, by omega⟩
    have hq : q < c.length := by omega
    by_cases hc1 : lgI c q = -1
    · simp (disch := omega) [hmp, s2, atI, hc1, wrap64, -getElem?_pos]
      exact Rnd_of (m' := q) (by omega) ⟨(q : Int) - 1, by omega, by omega, by omega, rfl, by simp⟩
    · simp (disch := omega) [hmp, s2, atI, hc1, -getElem?_pos]
      exact ⟨_, _, ⟨rfl, rfl⟩, .inr (by omega)⟩
  · simp (disch := omega) [hx]
    exact ⟨_, _, ⟨rfl, rfl⟩, .inl ⟨rfl, rfl⟩⟩
set_option maxHeartbeats 4000000 in
theorem aft_ex (hp : ∀ f, Np5 f → prim f = none) (t raw c : List Int) (hc : c.length ≤ 2000) (i : Nat) (h2 : i < c.length) :
    ∃ v, IsI .i64 v ∧ ∀ cfg h, callM md (K prim (d + 1)) cfg 77 [.agg (wdC t raw c), .int .i64 i] h = some (v, h) := by
  obtain ⟨hlf, hnr, hmp, s0, s1, s2, l3, t3⟩ := wdslots t raw c
  refine call0e rfl (hp 77 (by decide)) Tryz.func77 rfl rfl rfl (by simp [wdC]) ?_
  simp (disch := omega) [hlf, wrap64, -getElem?_pos]
  refine wC_loop (fun m fr H => ∃ q : Nat, q + 1 ≤ c.length ∧ m = c.length - (q + 1) ∧ H = [some (wdC t raw c)] ∧ Slots 25 [(1, .int .i64 ((q : Int) + 1)), (2, .ptr 0 0)] fr) (m := c.length - 1 - i) (by omega) ⟨i, by omega, by omega, rfl, by simp⟩ ?_
  rintro m fr H ⟨q, hq, rfl, rfl, hs⟩
  obtain ⟨j, rfl⟩ := hs.ex
  clear hs
  by_cases hx : q + 1 < c.length
  · have hI : (q : Int) + 1 < c.length := by omega
    have hn1 : ((q : Int) + 1).toNat = q + 1 := by omega
    by_cases hc1 : lgI c (q + 1) = -1
    · simp (disch := omega) [hmp, s2, hI, hn1, atI, hc1, wrap64, -getElem?_pos]
      exact Rnd_of (m' := c.length - (q + 2)) (by omega) ⟨q + 1, by omega, by omega, rfl, by simp (disch := omega)⟩
    · simp (disch := omega) [hmp, s2, hI, hn1, atI, hc1, -getElem?_pos]
  · have hI : ¬ (q : Int) + 1 < c.length := by omega
    simp (disch := omega) [hmp, s2, hI]
set_option maxRecDepth 100000 in
set_option maxHeartbeats 16000000 in
theorem wparts_ex (hp : ∀ f, Np5 f → prim f = none) (t raw c : List Int) (ht : t.length ≤ 2000) (hr : raw.length = t.length) (hc : c.length = t.length) (i : Nat) (h1 : 0 < i) (hi : i < t.length) :
    ∃ v, IsB v ∧ ∀ cfg h, callM md (K prim (d + 4)) cfg 45 [.agg (wdC t raw c), .int .i64 i] h = some (v, h) := by
  obtain ⟨hlf, hnr, hmp, s0, s1, s2, l3, t3⟩ := wdslots t raw c
  refine call0e rfl (hp 45 (by decide)) Tryz.func45 rfl rfl rfl (by simp [wdC]) ?_
  have e1 : (i : Int) - 1 = ((i - 1 : Nat) : Int) := by omega
  have hl1 : i - 1 < t.length := by omega
  have hl2 : i - 1 < raw.length := by omega
  have hl3 : i < raw.length := by omega
  have hl4 : i < c.length := by omega
  have hB := fun cfg h r => cbr_ok (prim := prim) d hp cfg h r
  obtain ⟨_, ⟨z1, rfl⟩, hE⟩ := ext_ex (prim := prim) (d + 2) hp (lgI raw i)
  obtain ⟨_, ⟨a, k, rfl, hk⟩, hBf⟩ := bef_ex (prim := prim) (d + 2) hp t raw c (by omega) i (by omega) (by omega)
  obtain ⟨_, ⟨a2, k2, rfl, hk2⟩, hBf2⟩ := bef_ex (prim := prim) (d + 2) hp t raw c (by omega) k (by omega) (by omega)
  obtain ⟨_, ⟨n, rfl⟩, hAf⟩ := aft_ex (prim := prim) (d + 2) hp t raw c (by omega) i hl4
  obtain ⟨_, ⟨p1, rfl⟩, hP1⟩ := wp1_ex (prim := prim) (d + 2) hp a
  obtain ⟨_, ⟨p2, rfl⟩, hP2⟩ := wp1_ex (prim := prim) (d + 2) hp (lgI c i)
  obtain ⟨_, ⟨p3, rfl⟩, hP3⟩ := wp2_ex (prim := prim) (d + 2) hp a
  obtain ⟨_, ⟨p4, rfl⟩, hP4⟩ := wp2_ex (prim := prim) (d + 2) hp (lgI c i)
  obtain ⟨_, ⟨p5, rfl⟩, hP5⟩ := wp3_ex (prim := prim) (d + 2) hp a
  obtain ⟨_, ⟨p6, rfl⟩, hP6⟩ := wp3_ex (prim := prim) (d + 2) hp (lgI c i)
  obtain ⟨_, ⟨p7, rfl⟩, hP7⟩ := wdy_ex (prim := prim) (d + 2) hp a
  obtain ⟨_, ⟨p8, rfl⟩, hP8⟩ := wdy_ex (prim := prim) (d + 2) hp (lgI c i)
  simp +contextual (disch := first | omega | (simp; done) | (simp [Decidable.imp_iff_not_or]; done) | fail) [-wG_bool, wG_q, wGq_some, gq_true, pickV_qA, wrap64, -getElem?_pos, hlf, hmp, s0, e1, atI]
  refine wIf_intro (fun _ => by simp) (fun _ => ?_)
  simp +contextual (disch := first | omega | (simp; done) | (simp [Decidable.imp_iff_not_or]; done) | fail) [-wG_bool, wG_q, wGq_some, gq_true, pickV_qO, wrap64, -getElem?_pos, hmp, s1, e1, atI]
  refine wIf_intro (fun _ => by simp) (fun _ => ?_)
  simp +contextual (disch := first | omega | (simp; done) | (simp [Decidable.imp_iff_not_or]; done) | fail) [-wG_bool, wG_q, wGq_some, gq_true, pickV_qA, wrap64, -getElem?_pos, hmp, s0, s1, e1, atI, hB]
  refine wIf_intro (fun _ => by simp) (fun _ => ?_)
  simp +contextual (disch := first | omega | (simp; done) | (simp [Decidable.imp_iff_not_or]; done) | fail) [-wG_bool, wG_q, wGq_some, gq_true, gq_false, pickV_qA, wrap64, -getElem?_pos, hmp, s1, e1, atI]
  refine wIf_intro (fun _ => by simp) (fun _ => ?_)
  simp +contextual (disch := first | omega | (simp; done) | (simp [Decidable.imp_iff_not_or]; done) | fail) [-wG_bool, -getElem?_pos, hmp, s1, atI, hE]
  refine wIf_intro (fun _ => by simp) (fun _ => ?_)
  simp +contextual (disch := first | omega | (simp; done) | (simp [Decidable.imp_iff_not_or]; done) | fail) [-wG_bool, wG_q, wGq_some, gq_true, pickV_qA, -getElem?_pos, hmp, l3, t3, s2, atI, hBf, hBf2, hAf, hP5, hP6]
  refine wIf_intro (fun _ => by simp) (fun _ => ?_)
  simp +contextual (disch := first | omega | (simp; done) | (simp [Decidable.imp_iff_not_or]; done) | fail) [-wG_bool, wG_q, wGq_some, gq_true, pickV_qA, hP2]
  refine wIf_intro (fun hb => by rw [hb]; simp) (fun _ => ?_)
  simp +contextual (disch := first | omega | (simp; done) | (simp [Decidable.imp_iff_not_or]; done) | fail) [-wG_bool, wG_q, wGq_some, gq_true, pickV_qA, hP1]
  refine wIf_intro (fun _ => by simp) (fun _ => ?_)
  simp +contextual (disch := first | omega | (simp; done) | (simp [Decidable.imp_iff_not_or]; done) | fail) [-wG_bool, wG_q, wGq_some, gq_true, gq_false, pickV_qA, hP4]
  refine wIf_intro (fun hb => by rw [hb]; simp) (fun _ => ?_)
  simp +contextual (disch := first | omega | (simp; done) | (simp [Decidable.imp_iff_not_or]; done) | fail) [-wG_bool, wG_q, wGq_some, gq_true, gq_false, pickV_qA, hP3]
  refine wIf_intro (fun _ => by simp) (fun _ => ?_)
  simp +contextual (disch := first | omega | (simp; done) | (simp [Decidable.imp_iff_not_or]; done) | fail) [-wG_bool, wG_q, wGq_some, gq_true, gq_false, pickV_qA]
  refine wIf_intro (fun _ => by simp) (fun _ => ?_)
  simp +contextual (disch := first | omega | (simp; done) | (simp [Decidable.imp_iff_not_or]; done) | fail) [-wG_bool, wG_q, wGq_some, gq_true, pickV_qA, hP7]
  refine wIf_intro (fun hb => by rw [hb]; simp) (fun _ => ?_)
  simp +contextual (disch := first | omega | (simp; done) | (simp [Decidable.imp_iff_not_or]; done) | fail) [-wG_bool, wG_q, wGq_some, gq_true, gq_false, pickV_qA, hP8]
  refine wIf_intro (fun _ => by simp) (fun _ => ?_)
  simp +contextual (disch := first | omega | (simp; done) | (simp [Decidable.imp_iff_not_or]; done) | fail) [-wG_bool, wG_q, wGq_some, gq_true, gq_false, pickV_qA]
  refine wIf_intro (fun _ => ?_) (fun _ => by simp)
  simp (disch := omega)
  refine wC_loop (fun m fr H => ∃ (x y q : Int), (y = -1 ∧ q = -1 ∨ 0 ≤ q ∧ q < i) ∧ m = (q + 1).toNat ∧ H = [some (wdC t raw c)] ∧ Slots 206 [(2, .ptr 0 0), (14, .int .i64 x), (15, .int .i64 y), (16, .int .i64 q)] fr) (m := (k + 1).toNat) (by omega) ⟨0, a, k, hk, rfl, rfl, by simp⟩ ?_
  rintro m fr H ⟨x, y, q, hq, rfl, rfl, hs⟩
  obtain ⟨j, rfl⟩ := hs.ex
  clear hs
  by_cases hy : y = 12
  · have hq0 : 0 ≤ q ∧ q < i := by omega
    obtain ⟨_, ⟨y', q', rfl, hq'⟩, hBq⟩ := bef_ex (prim := prim) (d + 2) hp t raw c (by omega) q (by omega) (by omega)
    simp (disch := omega) [hy, hmp, l3, t3, hBq]
    exact Rnd_of (m' := (q' + 1).toNat) (by omega) ⟨IntKind.i64.wrap (x + 1), y', q', by omega, rfl, rfl, by simp⟩
  · simp (disch := omega) [hy]
set_option maxRecDepth 100000 in
set_option maxHeartbeats 8000000 in
theorem clsfy_ex (hp : ∀ f, Np5 f → prim f = none) (t : List Int) (ht : t.length ≤ 2000) :
    ∃ v, (∃ raw c : List Int, v = .agg (wdC t raw c) ∧ raw.length = t.length ∧ c.length = t.length) ∧ ∀ cfg h, callM md (K prim (d + 4)) cfg 44 [rl t] h = some (v, h) := by
  refine call0e rfl (hp 44 (by decide)) Tryz.func44 rfl rfl rfl (by simp) ?_
  have hW := fun cfg h r => cwd_ok (prim := prim) d hp cfg h r
  have hE := fun x => ext_ex (prim := prim) (d + 2) hp x
  simp
  refine wC_draw 9 (by kernel_rfl) ?_
  simp (disch := omega) [zerosI]
  refine wC_loop (fun m fr H => ∃ (i : Nat) (raw c : List Int), i ≤ t.length ∧ m = t.length - i ∧ raw.length = t.length ∧ c.length = t.length ∧ H = [some [V.nils, V.nils, V.nils], some (raw.map (V.int .i64)), some (c.map (V.int .i64)), some [rl t, .sl 1 0 t.length t.length 1, .sl 2 0 t.length t.length 1]] ∧
    Slots 57 [(2, .ptr 0 0), (3, .ptr 3 0), (15, rl t), (16, .int .i64 t.length), (17, .int .i64 i)] fr) (m := t.length) (by omega) ⟨0, List.replicate t.length 0, List.replicate t.length 0, by omega, by omega, by simp, by simp, by simp, by simp⟩ ?_
  rintro m fr H ⟨i, raw, c, hi, rfl, hr, hc, rfl, hs⟩
  obtain ⟨j, rfl⟩ := hs.ex
  clear hs
  by_cases hlt : i < t.length
  · have hle : i + 1 ≤ t.length := by omega
    obtain ⟨_, ⟨z, rfl⟩, hEx⟩ := hE (cWd (lgI t i))
    have hw1 : Cfg.wr ⟨4, some 1, 4⟩ 1 = true := rfl
    simp (disch := omega) [hlt, hW, atI, -getElem?_pos]
    refine wC_draw 10 (by kernel_rfl) ?_
    cases z
    · simp (disch := omega) [-List.map_set, hr, hc, hle, hEx, hw1, wrap64, -getElem?_pos]
      exact Rnd_of (m' := t.length - (i + 1)) (by omega) ⟨i + 1, raw.set i (cWd (lgI t i)), c.set i (cWd (lgI t i)), by omega, by omega, by simpa using hr, by simpa using hc, rfl, by simp (disch := omega)⟩
    · simp +contextual (disch := first | omega | (simp; done) | (simp [Decidable.imp_iff_not_or]; done) | fail) [-wG_bool, wG_q, wGq_some, gq_true, pickV_qO, wrap64, -getElem?_pos, -List.map_set, atI, hr, hc, hle, hEx, hw1]
      refine wIf_intro (fun hb => ?_) (fun _ => ?_)
      · simp (disch := omega) [-List.map_set, hc, hle, wrap64, -getElem?_pos]
        exact Rnd_of (m' := t.length - (i + 1)) (by omega) ⟨i + 1, _, _, by omega, by omega, by simpa using hr, by simpa using hc, rfl, by simp (disch := omega)⟩
      · simp (disch := omega) [wrap64]
        exact Rnd_of (m' := t.length - (i + 1)) (by omega) ⟨i + 1, raw.set i (cWd (lgI t i)), c.set i (-1), by omega, by omega, by simpa using hr, by simpa using hc, by simp, by simp (disch := omega)⟩
  · obtain rfl : i = t.length := by omega
    have f1 := frz_ints (h := [some [rl t, .sl 1 0 t.length t.length 1, .sl 2 0 t.length t.length 1], some (raw.map (V.int .i64)), some (c.map (V.int .i64)), some [rl t, .sl 1 0 t.length t.length 1, .sl 2 0 t.length t.length 1]]) (n := 0) (b := 1) (len := t.length) (cap := t.length) (d := 3) (k := .i64) (l := raw) (by simp [blockOf]) (Nat.zero_le _) hr
    have f2 := frz_ints (h := [some [rl t, .sl 1 0 t.length t.length 1, .sl 2 0 t.length t.length 1], some (raw.map (V.int .i64)), some (c.map (V.int .i64)), some [rl t, .sl 1 0 t.length t.length 1, .sl 2 0 t.length t.length 1]]) (n := 0) (b := 2) (len := t.length) (cap := t.length) (d := 3) (k := .i64) (l := c) (by simp [blockOf]) (Nat.zero_le _) hc
    simp (disch := omega) [f1, f2]
    exact ⟨raw, c, rfl, hr, hc⟩
set_option maxHeartbeats 8000000 in
theorem words_ex (hp : ∀ f, Np5 f → prim f = none) (t : List Int) (ht : t.length ≤ 2000) :
    ∃ r, (∃ l : List Int, r = il l ∧ l.length ≤ t.length + 1 ∧ ∀ x ∈ l, 0 ≤ x ∧ x ≤ t.length) ∧ ∀ cfg h, callM md (K prim (d + 5)) cfg 22 [rl t] h = some (r, h) := by
  refine call0e rfl (hp 22 (by decide)) Tryz.func22 rfl rfl rfl (by simp) ?_
  have ht2 : ¬ (2000 : Int) < t.length := by omega
  by_cases h0 : t = []
  · subst h0
    simp
  have hpos : 0 < t.length := List.length_pos_iff.2 h0
  have h1 : ¬ (t.length : Int) = 0 := by omega
  obtain ⟨_, ⟨raw, c, rfl, hr, hc⟩, hCl⟩ := clsfy_ex (prim := prim) d hp t ht
  obtain ⟨hlf, hnr, hmp, s0, s1, s2, l3, t3⟩ := wdslots t raw c
  have hpa : putAt [V.nils, V.nils, V.nils] 0 (wdC t raw c) = wdC t raw c := rfl
  simp (disch := omega) [h0, ht2, hCl, hlf, l3, hpa]
  have g0 : Hp [some (wdC t raw c)] [some (wdC t raw c)] [] := Hp.start
  refine wC_loop (fun m fr H => ∃ (q : Nat) (v : V) (l : List Int), q + 1 ≤ t.length ∧ m = t.length - (q + 1) ∧ l.length ≤ q + 1 ∧ (∀ x ∈ l, 0 ≤ x ∧ x ≤ t.length) ∧ Hp H [some (wdC t raw c)] [(1, v, l.map (V.int .i64))] ∧
    Slots 35 [(0, rl t), (3, .ptr 0 0), (4, v), (5, .int .i64 ((q : Int) + 1))] fr) (m := t.length - 1) (by omega) ⟨0, .sl 1 0 1 1 1, [0], by omega, by omega, by simp, by simp, by simpa using g0.new (cs := [V.int .i64 0]) (n := 1) (k := 1) rfl rfl [], by simp⟩ ?_
  rintro m fr H ⟨q, v, l, hq, rfl, hll, hlr, hhp, hs⟩
  obtain ⟨j2, rfl⟩ := hs.ex
  clear hs
  have hb0 : blockOf H 0 = some (wdC t raw c) := by rw [hhp.block (by simp)]; simp [blockOf, hmp]
  by_cases hlt : q + 1 < t.length
  · have hI : (q : Int) + 1 < t.length := by omega
    obtain ⟨_, ⟨b, rfl⟩, hbd⟩ := wparts_ex (prim := prim) d hp t raw c (by omega) hr hc (q + 1) (by omega) (by omega)
    have e1 : ((q + 1 : Nat) : Int) = (q : Int) + 1 := by omega
    rw [e1] at hbd
    cases b
    · simp (disch := omega) [hI, hb0, l3, t3, hbd, wrap64]
      exact Rnd_of (m' := t.length - (q + 1 + 1)) (by omega) ⟨q + 1, v, l, by omega, by omega, by omega, hlr, hhp, by simp (disch := omega)⟩
    · have hbn : blockOf (H ++ [some [V.int .i64 ((q : Int) + 1)]]) H.length = some [V.int .i64 ((q : Int) + 1)] := by rw [blockOf_len' rfl]; rfl
      simp (disch := omega) [hI, hb0, l3, t3, hbd, hbn]
      refine wS_appO (m := 1) (hhp.push [some [V.int .i64 ((q : Int) + 1)]]) (by simp) rfl rfl (by omega) (by omega) (by simp; omega) (by simp; omega) ?_
      intro v' H' hhp2
      simp (disch := omega) [wrap64]
      refine Rnd_of (m' := t.length - (q + 1 + 1)) (by omega) ⟨q + 1, v', l ++ [(q : Int) + 1], by omega, by omega, by simp; omega, ?_, by simpa using hhp2, by simp (disch := omega)⟩
      intro x hx
      rcases List.mem_append.1 hx with hx | hx
      · exact hlr x hx
      · simp at hx; omega
  · have hI : ¬ (q : Int) + 1 < t.length := by omega
    have hbn : blockOf (H ++ [some [V.int .i64 (t.length : Int)]]) H.length = some [V.int .i64 (t.length : Int)] := by rw [blockOf_len' rfl]; rfl
    simp (disch := omega) [hI, hbn]
    refine wS_appO (m := 1) (hhp.push [some [V.int .i64 (t.length : Int)]]) (by simp) rfl rfl (by omega) (by omega) (by simp; omega) (by simp; omega) ?_
    intro v' H' hhp2
    have f1 := OwnC.frzI (d := 4) (kd := .i64) (l := l ++ [(t.length : Int)]) (n := 0) (by simpa using hhp2.head) (Nat.zero_le _)
    simp (disch := omega)
    refine ⟨_, f1, _, rfl, by simp; omega, ?_⟩
    intro x hx
    rcases List.mem_append.1 hx with hx | hx
    · exact hlr x hx
    · simp at hx; omega
end
end Bi
end Go.Ab
namespace Go.Ab
open Go.Proofs Go.Shelf Go.RowKit Go.Lib Go.Sort
def intIn : List V → Option (List Int)
  | [] => some []
  | .int .i64 a :: r => match intIn r with
    | some l => some (a :: l)
    | none => none
  | _ => none
theorem intIn_some : ∀ {cs : List V} {l : List Int}, intIn cs = some l → cs = l.map (V.int .i64)
  | [], l, h => by simp [intIn] at h; subst h; rfl
  | x :: r, l, h => by
    unfold intIn at h
    split at h
    · rename_i heq; cases heq
    · rename_i a r' heq
      cases heq
      split at h
      · rename_i l' h1
        cases h
        rw [intIn_some h1]
        rfl
      · cases h
    · cases h
theorem intIn_map : ∀ l : List Int, intIn (l.map (V.int .i64)) = some l
  | [] => rfl
  | x :: l => by rw [List.map_cons, intIn, intIn_map l]
def srtI (l : List Int) : List Int := l.mergeSort fun x y => decide (x ≤ y)
theorem srtI_len (l : List Int) : (srtI l).length = l.length := by simp [srtI]
theorem srtI_perm (l : List Int) : (srtI l).Perm l := List.mergeSort_perm ..
theorem srtI_up (l : List Int) : (srtI l).Pairwise (· ≤ ·) := by
  have h := List.pairwise_mergeSort (le := fun x y : Int => decide (x ≤ y)) (fun a b c h1 h2 => by simp at *; omega) (fun a b => by simp; omega) l
  exact h.imp fun h => by simpa using h
def sortI : Prim := fun cfg args h => match args with
  | [.sl b off len _ 1] =>
    if len < 4611686018427387904 then match blockOf h b with
      | some cs => if off + len ≤ cs.length then match intIn ((cs.drop off).take len) with
          | some l => match storeCellsV cfg h b off ((srtI l).map (V.int .i64)) with
            | some h' => some (.tup [], h')
            | none => none
          | none => none
        else none
      | none => none
    else none
  | _ => none
section
variable {m : Mu} {h : Heap} {w w' : World}
theorem evoI_upd {x b : Nat} {cs : List V} (hx : live h x) (hb : m x = some b) {arr arr' : Array Value} {T : TypeId} (ha : w.heap[b]? = some (.cells arr T (0, 0))) (ha' : w'.heap[b]? = some (.cells arr' T (0, 0))) (hsz : arr.size ≤ arr'.size)
    (hs : ∀ c, c < w.heap.size → c ≠ b → w'.heap[c]? = w.heap[c]?) (hz : w.heap.size ≤ w'.heap.size) (h1 : w'.os = w.os) (h2 : w'.tape = w.tape) (h3 : w'.output = w.output) : Evo m h w m (h.set x (some cs)) w' where
  zeq := rfl
  len := by simp
  keep := fun y _ hl => ⟨(live_set hx).1 hl, rfl⟩
  own := fun y c hl hc => .inl ⟨y, (live_set hx).1 hl, hc⟩
  frame := fun c hc hn => hs c hc fun hcb => hn x hx (hcb ▸ hb)
  size := hz
  rs := fun c hc => by
    by_cases hcb : c = b
    · subst hcb; simp only [rsz, ha, ha']; exact hsz
    · rw [rsz_of_block (hs c hc hcb)]; exact Nat.le_refl _
  os := h1
  tape := h2
  output := h3
theorem relI_upd (r : Rel m h w) {x b : Nat} {cs : List V} (hx : live h x) (hb : m x = some b) {arr arr' : Array Value} {T : TypeId} (ha : w.heap[b]? = some (.cells arr T (0, 0))) (ha' : w'.heap[b]? = some (.cells arr' T (0, 0))) (hsz : arr.size ≤ arr'.size)
    (hs : ∀ c, c < w.heap.size → c ≠ b → w'.heap[c]? = w.heap[c]?) (hz : w.heap.size ≤ w'.heap.size) (h1 : w'.os = w.os) (h2 : w'.tape = w.tape) (h3 : w'.output = w.output)
    (hl : cs.length ≤ arr'.size) (hr : ∀ (i : Nat) (c : V), cs[i]? = some c → ∃ v, arr'[i]? = some v ∧ R m h w c v) : Rel m (h.set x (some cs)) w' := by
  have e := evoI_upd (cs := cs) hx hb ha ha' hsz hs hz h1 h2 h3
  refine ⟨fun y c hy hc => r.zo y c ((live_set hx).1 hy) hc, fun c hc => Nat.lt_of_lt_of_le (r.zl c hc) e.size, fun y z c hy hz hcy hcz => r.inj y z c ((live_set hx).1 hy) ((live_set hx).1 hz) hcy hcz, fun y cs' c hy hc => ?_⟩
  by_cases hxy : x = y
  · subst hxy
    rw [List.getElem?_set_self (live_lt hx)] at hy
    cases hy
    rw [hb] at hc
    cases hc
    refine .inl ⟨arr', T, ha', hl, fun i c hc => ?_⟩
    obtain ⟨v, hv, hrv⟩ := hr i c hc
    exact ⟨v, hv, hrv.evo e r.lt⟩
  · rw [List.getElem?_set_ne hxy] at hy
    have hcb : c ≠ b := fun e => hxy (r.inj x y b hx ⟨cs', hy⟩ hb (e ▸ hc))
    exact (r.blk y cs' c hy hc).carry (hs c (r.lt y c ⟨cs', hy⟩ hc) hcb) fun d v _ hrv => hrv.evo e r.lt
end
theorem sortIWorld_facts (w : World) (b off n : Nat) (d : Array Int) (os : Array Obj) (arr : Array Value) (T : TypeId) (ha : w.heap[b]? = some (.cells arr T (0, 0))) :
    (grow (putRow (Value.int .i64) (Sort.ahead w n) b off d) os).heap[b]? = some (.cells (putCells (Value.int .i64) off d arr) T (0, 0)) ∧ (∀ c, c < w.heap.size → c ≠ b → (grow (putRow (Value.int .i64) (Sort.ahead w n) b off d) os).heap[c]? = w.heap[c]?) ∧
    w.heap.size ≤ (grow (putRow (Value.int .i64) (Sort.ahead w n) b off d) os).heap.size ∧ (grow (putRow (Value.int .i64) (Sort.ahead w n) b off d) os).os = w.os ∧ (grow (putRow (Value.int .i64) (Sort.ahead w n) b off d) os).tape = w.tape ∧ (grow (putRow (Value.int .i64) (Sort.ahead w n) b off d) os).output = w.output := by
  have hbl : b < w.heap.size := (Array.getElem?_eq_some_iff.1 ha).1
  refine ⟨?_, fun c hc hcb => ?_, ?_, rfl, rfl, rfl⟩
  · simp only [putRow, mapBlock, grow, Sort.ahead]
    rw [Array.getElem?_append_left (by simpa using hbl), Array.getElem?_modify, if_pos rfl, ha]
    rfl
  · simp only [putRow, mapBlock, grow, Sort.ahead]
    rw [Array.getElem?_append_left (by simpa using hc), Array.getElem?_modify, if_neg (Ne.symm hcb)]
  · simp [putRow, mapBlock, grow, Sort.ahead]
theorem sortI_ok {P : Program} {ρ : Ren} (L : Lays.n189 P ρ) (hex : ∃ fn, P.funcs[ρ.f 189]? = some fn ∧ fn.body.isNone = false) : PrimOK P (ρ.f 189) sortI := by
  intro cfg args h r h' hx
  unfold sortI at hx
  split at hx
  · rename_i b off len cap
    split at hx
    · rename_i hlen
      split at hx
      · rename_i cs hcs
        split at hx
        · rename_i hol
          split at hx
          · rename_i l hl
            split at hx
            · rename_i h2 hst
              cases hx
              have hlin := intIn_some hl
              have hll : l.length = len := by
                have := congrArg List.length hlin
                simp at this
                omega
              have hlive := live_of_blockOf hcs
              refine ⟨HS.storeCells hst, hex, fun m w vs hr hp => ?_⟩
              obtain ⟨hsz, hp2⟩ := hp
              simp only [List.length_cons, List.length_nil] at hsz
              obtain ⟨v0, rfl⟩ : ∃ v0, vs = #[v0] := by
                refine ⟨vs[0], Array.ext (by simpa using hsz) fun i h1 h2 => ?_⟩
                rcases i with _ | i
                · rfl
                · simp only [List.size_toArray, List.length_cons, List.length_nil] at h2
                  omega
              have r0 := hp2 0 _ v0 rfl rfl
              cases r0 with
              | sl hlt hcap hlen' hv =>
              rename_i rc a
              obtain ⟨b', hmb, rfl, hrs⟩ := hv ⟨cs, hlive⟩
              obtain ⟨arr, T, ha, hal, hac⟩ := (hr.blk b cs b' hlive hmb).cells (notMap_of_blockOf hcs)
              have hbl : b' < w.heap.size := (Array.getElem?_eq_some_iff.1 ha).1
              have hH : Holds (Value.int .i64) w b' off l.toArray := by
                intro j hj
                simp only [List.size_toArray, hll] at hj
                refine ⟨?_, by simp [World.frozen?, ha]⟩
                obtain ⟨c, hc1⟩ : ∃ c, cs[off + j]? = some c := ⟨_, List.getElem?_eq_getElem (by omega)⟩
                obtain ⟨v, hv1, hv2⟩ := hac _ c hc1
                have hc2 : (l.map (V.int .i64))[j]? = some c := by
                  rw [← hlin, List.getElem?_take_of_lt hj, List.getElem?_drop]; exact hc1
                simp only [World.cell?, ha]
                rw [hv1, getElem!_pos _ _ (by simpa [hll] using hj)]
                simp only [List.getElem?_map, Option.map_eq_some_iff] at hc2
                obtain ⟨x, hx1, rfl⟩ := hc2
                cases hv2
                have hx2 := (List.getElem?_eq_some_iff.1 hx1).2
                simp [hx2]
              have hcall := Any.slices_Sort_int L b' off rc l w hH hbl (by omega)
              rw [hll] at hcall
              refine hcall.mono ?_
              rintro e w' ⟨rfl, n, os, rfl⟩
              refine ⟨_, rfl, ?_⟩
              have hstc := hst
              unfold storeCellsV at hstc
              rw [hcs] at hstc
              simp only at hstc
              split at hstc
              · rename_i hcond
                simp only [Bool.and_eq_true, decide_eq_true_eq] at hcond
                have hcle := hcond.1.1
                cases hstc
                obtain ⟨f1, f2, f3, f4, f5, f6⟩ := sortIWorld_facts w b' off n (srtI l).toArray os arr T ha
                have hsz1 : arr.size ≤ (putCells (Value.int .i64) off (srtI l).toArray arr).size := by simp [putCells]
                refine ⟨m, evoI_upd ⟨cs, hlive⟩ hmb ha f1 hsz1 f2 f3 f4 f5 f6, relI_upd hr ⟨cs, hlive⟩ hmb ha f1 hsz1 f2 f3 f4 f5 f6 (by rw [putAt_length]; omega) ?_, .tup (by simp) (by simp)⟩
                intro i c hi
                rw [putAt_get cs off _ i hcle] at hi
                rw [List.length_map, srtI_len, hll] at hi hcle
                simp only [putCells, Array.getElem?_mapIdx, List.size_toArray, srtI_len, hll]
                by_cases hin : off ≤ i ∧ i < off + len
                · rw [if_pos hin] at hi
                  obtain ⟨v, hv1, -⟩ := hac i _ (List.getElem?_eq_getElem (by omega))
                  refine ⟨Value.int .i64 ((srtI l).toArray[i - off]!), by rw [hv1]; simp [hin], ?_⟩
                  simp only [List.getElem?_map, Option.map_eq_some_iff] at hi
                  obtain ⟨x, hx1, rfl⟩ := hi
                  have hx3 : (srtI l).toArray[i - off]! = x := by
                    rw [getElem!_pos _ _ (by simp [srtI_len]; omega)]
                    exact (List.getElem?_eq_some_iff.1 hx1).2
                  rw [hx3]
                  exact .int _ _
                · rw [if_neg hin] at hi
                  obtain ⟨v, hv1, hv2⟩ := hac i c hi
                  exact ⟨v, by rw [hv1]; simp [hin], hv2⟩
              · cases hstc
            · cases hx
          · cases hx
        · cases hx
      · cases hx
    · cases hx
  · cases hx
end Go.Ab
