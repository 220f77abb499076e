/- Several texts of this proof in one. -/
import Derived.Test.YtoappddifbgegaaGreatPcH
import Derived.Test.YtoappddifbgegaaGreatPaGen
set_option linter.all false
namespace Go.Ab
open Go.Proofs
namespace Bi
attribute [local congr] wGq_congr
theorem scal_of_valid {c : Nat} (h : Utf8.valid c = true) : scal (c : Int) = true := by
  simp only [Utf8.valid, Bool.or_eq_true, Bool.and_eq_true, decide_eq_true_eq] at h
  simp only [scal, Bool.and_eq_true, Bool.or_eq_true, decide_eq_true_eq]
  omega
theorem scal_small {c : Nat} (h : c < 55296) : scal (c : Int) = true := by
  simp only [scal, Bool.and_eq_true, Bool.or_eq_true, decide_eq_true_eq]
  omega
theorem decode_scal (s : ByteArray) (i : Nat) : scal (Int.ofNat (Utf8.decode s i).1) = true := by
  have he : scal (Int.ofNat Utf8.runeError) = true := by decide
  unfold Utf8.decode
  simp only
  split
  · rename_i h; exact scal_small (by omega)
  · split
    · split
      · exact scal_small (by omega)
      · exact he
    · split
      · split
        · rename_i h
          simp only [Bool.and_eq_true] at h
          exact scal_of_valid h.2
        · exact he
      · split
        · split
          · rename_i h
            simp only [Bool.and_eq_true] at h
            exact scal_of_valid h.2
          · exact he
        · exact he
theorem runes_scal (s : ByteArray) : ∀ (n i : Nat), (runesOf s n i).all scal = true
  | 0, _ => rfl
  | n + 1, i => by
    simp only [runesOf]
    split
    · simp only [List.all_cons, Bool.and_eq_true]
      exact ⟨decode_scal s i, runes_scal s n _⟩
    · rfl
theorem elemsOf_rl {h : Heap} {l : List Int} : elemsOf h (rl l) = some (l.map (V.int .i32)) := by
  simp only [elemsOf]
  induction l with
  | nil => rfl
  | cons x l ih => simp [List.mapM_cons] at ih ⊢; simp [ih]
theorem runesIn_ints : ∀ l : List Int, runesIn (l.map (V.int .i32)) = some l
  | [] => rfl
  | x :: l => by simp [runesIn, runesIn_ints l]
theorem cvR_S {h : Heap} {x : V} : convV Tryz.prog h 25 9 x = ((elemsOf h x).bind runesIn).map fun ns => (.str (encAll ns), h) := by
  have h1 : Tryz.prog.underlying 25 = some (.slice 21) := by kernel_rfl
  have h2 : Tryz.prog.underlying 9 = some .string := by kernel_rfl
  have h3 : Tryz.prog.underlying 21 = some (.int .i32) := by kernel_rfl
  simp only [convV, h1, h2, h3]
  cases elemsOf h x with
  | none => rfl
  | some cs => simp only [Option.bind_some]; cases runesIn cs <;> rfl
theorem cvS_R {h : Heap} {s : ByteArray} : convV Tryz.prog h 9 25 (.str s) = some (.sl h.length 0 (runesOf s s.size 0).length (runesOf s s.size 0).length 1, h ++ [some ((runesOf s s.size 0).map (V.int .i32))]) := by kernel_rfl
theorem svaM (d : Nat) (cfg : Cfg) (h : Heap) (b : Nat) (l : List Int) :
    ∃ l' : List Int, l'.all scal = true ∧ callM md (K pM (d + 1)) cfg 47 [.ptr b 0, rl l] h = some (rl l', h) := by
  refine ⟨runesOf (encAll l) (encAll l).size 0, runes_scal _ _ _, call0q rfl rfl Tryz.func47 rfl rfl rfl rfl ?_⟩
  simp [cvR_S, cvS_R, elemsOf_rl, runesIn_ints]
  exact frz_ints (d := 4) (k := .i32) (by simp) (Nat.le_refl _) rfl
def mdL (f : FuncId) : Nat := if f = 17 then 1 else md f
noncomputable def kP (f : FuncId) : Prim := fun cfg args h => callN Tryz.prog md pM 10000 60 cfg f args h
def lawF : List FuncId := [14, 16, 48, 47, 15, 19, 13, 10, 18, 20, 21]
noncomputable def pL (f : FuncId) : Option Prim := if lawF.contains f then some (kP f) else none
theorem pL_ok : ∀ f p, pL f = some p → PrimOK Tryz.prog f p := by
  intro f p h
  unfold pL at h
  split at h
  · cases h
    exact fun _ _ _ _ _ hx => callN_ok Aw.hfol Aw.hnam pM_ok 60 _ _ _ _ _ _ hx
  · cases h
noncomputable abbrev KL (d : Nat) : Callf := callN Tryz.prog mdL pL 10000 d
theorem callN_part {P : Program} {md' : FuncId → Nat} {prim : FuncId → Option Prim} {n d : Nat} {f : FuncId} {p : Prim} {cfg : Cfg} {args : List V} {h : Heap} (hp : prim f = some p) : callN P md' prim n (d + 1) cfg f args h = p cfg args h := by simp only [callN, hp]
theorem toL {f : FuncId} (hf : lawF.contains f = true) (hm : mdL f = md f) (d : Nat) (cfg : Cfg) (args : List V) (h : Heap) : callM mdL (KL (d + 1)) cfg f args h = callM md (K pM 60) cfg f args h := by
  have e : ∀ cfg args h, KL (d + 1) cfg f args h = K pM 60 cfg f args h := fun cfg args h => by
    have : pL f = some (kP f) := by simp only [pL, hf, if_true]
    exact callN_part this
  simp only [callM, hm, e]
set_option maxRecDepth 100000 in
theorem vldL (d : Nat) (cfg : Cfg) (h : Heap) (L : List Int) (k : Nat) (hL : L.length ≤ 4000) (hk : k ≤ L.length) (n : Nat) (hn : n ≤ 1000) (b : Nat) (hb : blockOf h b = some [il L, .int .i64 k]) (hw : cfg.wr b = true) (hlo : cfg.lo ≤ h.length) :
    ∃ (l : List Int) (k' : Nat), l.length ≤ n ∧ l.all scal = true ∧ k' ≤ L.length ∧ callM mdL (KL (d + 2)) cfg 17 [.ptr b 0, .int .i64 n] h = some (rl l, h.set b (some [il L, .int .i64 k'])) := by
  have hpT : ∀ f, Np5 f → pT f = none := pT_none
  obtain ⟨l, k1, _, hk1, hT0⟩ := text_ok (prim := pT) (d := 56) (cfg := ⟨cfg.lo, cfg.ex, h.length⟩) (h := h) hpT L k hL hk n hn b hb hw hlo
  have hT1 := toM (by omega) hT0
  have hT := (toL (f := 48) rfl rfl d ⟨cfg.lo, cfg.ex, h.length⟩ [.ptr b 0, .int .i64 n] h).trans hT1
  obtain ⟨l', hs, hV0⟩ := svaM 59 ⟨cfg.lo, cfg.ex, h.length⟩ (h.set b (some [il L, .int .i64 k1])) b l
  have hV := (toL (f := 47) rfl rfl d ⟨cfg.lo, cfg.ex, h.length⟩ [.ptr b 0, rl l] (h.set b (some [il L, .int .i64 k1]))).trans hV0
  by_cases hlen : n < l'.length
  · refine ⟨l'.take n, k1, by simp; omega, ?_, hk1, call1 rfl rfl Tryz.func17 rfl rfl rfl ?_⟩
    · rw [List.all_eq_true] at hs ⊢
      exact fun x hx => hs x (List.mem_of_mem_take hx)
    · simp (disch := omega) [hT, hV, hlen]
      exact List.take_of_length_le (by simp)
  · refine ⟨l', k1, by omega, hs, hk1, call1 rfl rfl Tryz.func17 rfl rfl rfl ?_⟩
    simp (disch := omega) [hT, hV, hlen]
    exact List.take_of_length_le (by simp)
end Bi
end Go.Ab
namespace Go.Ab
open Go.Proofs
namespace Bi
attribute [local congr] wGq_congr
set_option maxRecDepth 100000 in
set_option maxHeartbeats 8000000 in
theorem newN (d : Nat) (hd : d + 6 ≤ 60) (m : Bool) (mo : Int) (hmo : 1 ≤ mo ∧ mo ≤ 8) (cfg : Cfg) (h : Heap) :
    callM md (K pM (d + 6)) cfg 10 [.nils, .agg (cfL m mo)] h = some (.tup [.agg (eL nn nn 0 his0), .int .i64 0], h) := by
  obtain ⟨hm1, hm2⟩ := hmo
  have b1 : mo ≤ 2000 := by omega
  refine call0 rfl rfl Tryz.func10 rfl rfl rfl (by simp [cfL]) ?_
  have hB : ∀ cfg h x l r, callM md (K pM (d + 5)) cfg 27 [.int .i64 x, .int .i64 l, .int .i64 r] h = some (.bool (decide (l ≤ x) && decide (x ≤ r)), h) := fun cfg h x l r => toM (by omega) (btw_ok (prim := pT) (d + 4) pT_none cfg h x l r)
  have hS : ∀ cfg h, callM md (K pM (d + 5)) cfg 37 [.nils, .agg [.bool m, .bool false, .int .i64 mo, .int .i64 0, .int .i64 1, .int .i64 10, .int .i64 1000, .int .i64 0, .int .i64 0]] h = some (nn, h) := fun cfg h => by
    cases m <;> kernel_rfl
  have hF : ∀ cfg h, callM md (K pM (d + 5)) cfg 38 [nn, .int .i64 mo] h = some (.int .i64 0, h) := fun cfg h => by
    have := toM (d := d + 5) (by omega) (fit_ok (prim := pT) d pT_none [] (by simp) mo cfg h)
    rw [show fitS [] mo = 0 from by unfold fitS; rw [if_pos (by simp; omega)]; rfl] at this
    exact this
  have hP : ∀ cfg h, callM md (K pM (d + 5)) cfg 39 [nn, .int .i64 0] h = some (.tup [.agg [nn, nn], .int .i64 0], h) := fun cfg h => by kernel_rfl
  simp only [cfL]
  simp [hB, hm1, b1]
  refine wC_loop (fun q fr H => q = 0 ∧ H = [some [.bool m, .bool false, .int .i64 mo, .int .i64 0, .int .i64 1, .int .i64 10, .int .i64 1000, .int .i64 0, .int .i64 0], some edZ] ∧ Slots 67 [(0, .nils), (3, .ptr 0 0), (4, .ptr 1 0), (16, .nils), (17, .int .i64 0), (18, .int .i64 0)] fr) (m := 0) (by omega) ⟨rfl, rfl, by simp⟩ ?_
  rintro q fr H ⟨rfl, rfl, hs⟩
  obtain ⟨j, rfl⟩ := hs.ex
  clear hs
  have hz : slcL 1 [] (some 0) (some 0) = some nn := rfl
  simp [hS, hF, hP, edZ, hz]
  rfl
end Bi
end Go.Ab
