/- Several texts of this proof in one. -/
import Derived.Test.YteogajcegmejgaaGreatAbSortI
import Derived.Test.YteogajcegmejgaaGreatPiF
import Derived.Test.YteogajcegmejgaaGreatAbW
import Derived.Test.YteogajcegmejgaaGreatAbMemo
import Derived.Test.YteogajcegmejgaaGreatPaM
namespace Go.Proofs
open Go.Shelf Go.RowKit Go.Lib Go.Sort
def Tryz.sortIL_ren : Ren := ⟨fun | 189 => 24 | 125 => 48 | 257 => 47 | 128 => 89 | 129 => 90 | 294 => 80 | 295 => 81 | 296 => 82 | 297 => 83 | 298 => 84 | 299 => 85 | 216 => 86 | 300 => 87 | 301 => 88 | 328 => 125 | 329 => 126 | 330 => 127 | 331 => 128 | 332 => 129 | 215 => 130 | 343 => 142 | n => n, fun | 28 => 22 | 3 => 3 | 46 => 90 | 0 => 0 | 51 => 128 | 53 => 130 | 4 => 4 | 183 => 120 | 182 => 119 | 131 => 125 | 5 => 5 | 9 => 9 | 218 => 160 | 222 => 164 | 228 => 176 | 229 => 62 | n => n, fun | n => n⟩
theorem Tryz.sortIL : Lays.n189 Tryz.prog Tryz.sortIL_ren := {
  mixed := by kernel_rfl
  f125 := Tryz.func48.trans (congrArg some (by kernel_rfl))
  f128 := Tryz.func89.trans (congrArg some (by kernel_rfl))
  f129 := Tryz.func90.trans (congrArg some (by kernel_rfl))
  f189 := Tryz.func24.trans (congrArg some (by kernel_rfl))
  f215 := Tryz.func130.trans (congrArg some (by kernel_rfl))
  f216 := Tryz.func86.trans (congrArg some (by kernel_rfl))
  f257 := Tryz.func47.trans (congrArg some (by kernel_rfl))
  f294 := Tryz.func80.trans (congrArg some (by kernel_rfl))
  f295 := Tryz.func81.trans (congrArg some (by kernel_rfl))
  f296 := Tryz.func82.trans (congrArg some (by kernel_rfl))
  f297 := Tryz.func83.trans (congrArg some (by kernel_rfl))
  f298 := Tryz.func84.trans (congrArg some (by kernel_rfl))
  f299 := Tryz.func85.trans (congrArg some (by kernel_rfl))
  f300 := Tryz.func87.trans (congrArg some (by kernel_rfl))
  f301 := Tryz.func88.trans (congrArg some (by kernel_rfl))
  f328 := Tryz.func125.trans (congrArg some (by kernel_rfl))
  f329 := Tryz.func126.trans (congrArg some (by kernel_rfl))
  f330 := Tryz.func127.trans (congrArg some (by kernel_rfl))
  f331 := Tryz.func128.trans (congrArg some (by kernel_rfl))
  f332 := Tryz.func129.trans (congrArg some (by kernel_rfl))
  f343 := Tryz.func142.trans (congrArg some (by kernel_rfl))
  t0 := Tryz.underlying0
  a0 := Tryz.isAgg0
  z0 := Tryz.sizeOf0
  v0 := Tryz.zeroValue0
  t3 := Tryz.underlying3
  a3 := Tryz.isAgg3
  z3 := Tryz.sizeOf3
  v3 := Tryz.zeroValue3
  t4 := Tryz.underlying4
  a4 := Tryz.isAgg4
  z4 := Tryz.sizeOf4
  v4 := Tryz.zeroValue4
  t5 := Tryz.underlying5
  a5 := Tryz.isAgg5
  z5 := Tryz.sizeOf5
  v5 := Tryz.zeroValue5
  t9 := Tryz.underlying9
  a9 := Tryz.isAgg9
  z9 := Tryz.sizeOf9
  v9 := Tryz.zeroValue9
  t28 := Tryz.underlying22
  a28 := Tryz.isAgg22
  z28 := Tryz.sizeOf22
  v28 := Tryz.zeroValue22
  t46 := Tryz.underlying90
  a46 := Tryz.isAgg90
  z46 := Tryz.sizeOf90
  v46 := Tryz.zeroValue90
  t51 := Tryz.underlying128
  a51 := Tryz.isAgg128
  z51 := Tryz.sizeOf128
  v51 := Tryz.zeroValue128
  t53 := Tryz.underlying130
  a53 := Tryz.isAgg130
  z53 := Tryz.sizeOf130
  v53 := Tryz.zeroValue130
  t131 := Tryz.underlying125
  a131 := Tryz.isAgg125
  z131 := Tryz.sizeOf125
  v131 := Tryz.zeroValue125
  t182 := Tryz.underlying119
  a182 := Tryz.isAgg119
  z182 := Tryz.sizeOf119
  v182 := Tryz.zeroValue119
  t183 := Tryz.underlying120
  a183 := Tryz.isAgg120
  z183 := Tryz.sizeOf120
  v183 := Tryz.zeroValue120
  t218 := Tryz.underlying160
  a218 := Tryz.isAgg160
  z218 := Tryz.sizeOf160
  v218 := Tryz.zeroValue160
  t222 := Tryz.underlying164
  a222 := Tryz.isAgg164
  z222 := Tryz.sizeOf164
  v222 := Tryz.zeroValue164
  t228 := Tryz.underlying176
  a228 := Tryz.isAgg176
  z228 := Tryz.sizeOf176
  v228 := Tryz.zeroValue176
  t229 := Tryz.underlying62
  a229 := Tryz.isAgg62
  z229 := Tryz.sizeOf62
  v229 := Tryz.zeroValue62 }
end Go.Proofs
namespace Go.Ab
open Go.Proofs
namespace Bi
theorem sortI_at : Tryz.sortIL_ren.f 189 = 24 := by kernel_rfl
theorem sortIPrim_ok : PrimOK Tryz.prog 24 sortI := by
  have h := sortI_ok Tryz.sortIL (by rw [sortI_at]; exact ⟨_, Tryz.func24, rfl⟩)
  rw [sortI_at] at h
  exact h
end Bi
end Go.Ab
namespace Go.Ab.Tx
theorem whT_no {o t n : Int} : ∀ {b : List Int}, (∀ x ∈ b, ¬ (o < x ∧ t ≤ x)) → whT o t n b = n
  | [], _ => rfl
  | x :: b, h => by
    rw [whT, if_neg (h x (List.mem_cons_self ..)), whT_no fun y hy => h y (List.mem_cons_of_mem _ hy)]
theorem wh_all {b : List Int} {n f t : Int} (h : Bnd b n) (h0 : 0 ≤ f) (hft : f ≤ t) (htn : t ≤ n) :
    let x := whF f n b 0
    let y := whT x t n b
    x ∈ b ∧ y ∈ b ∧ x ≤ f ∧ t ≤ y ∧ 0 ≤ x ∧ x ≤ y ∧ y ≤ n ∧ (0 < n → x < y) ∧ whF x n b 0 = x ∧ whT x y n b = y := by
  intro x y
  by_cases hn : 0 < n
  · obtain ⟨h1, h2, h3, h4, h5, h6, h7⟩ := whole_ok (f := f) (t := t) h hn h0 htn
    have h8 := (h.rng _ h1).1
    have h9 := (h.rng _ h2).2
    exact ⟨h1, h2, h3, h4, h8, Int.le_of_lt h5, h9, fun _ => h5, h6, h7⟩
  · have e : n = 0 := by omega
    have hx : x = 0 := whF_no fun z hz hz2 => by have := h.rng z hz; omega
    have hb : ∀ z ∈ b, z = 0 := fun z hz => by have := h.rng z hz; omega
    have hy : y = n := whT_no fun z hz hz2 => by have := hb z hz; omega
    have hx2 : whF x n b 0 = 0 := whF_no fun z hz hz2 => by have := h.rng z hz; omega
    have hy2 : whT x y n b = n := whT_no fun z hz hz2 => by have := hb z hz; omega
    refine ⟨hx ▸ h.zero, hy ▸ h.all, by omega, by omega, by omega, by omega, by omega, fun h => absurd h hn, by omega, by omega⟩
end Go.Ab.Tx
namespace Go.Ab
def Le (c c' : Callf) : Prop := ∀ cfg f args h r, c cfg f args h = some r → c' cfg f args h = some r
section
variable {P : Program} {md : FuncId → Nat} {c c' : Callf} {n : Nat}
theorem callM_mono (hc : Le c c') {cfg : Cfg} {f : FuncId} {args : List V} {h : Heap} {r : V × Heap} (hx : callM md c cfg f args h = some r) : callM md c' cfg f args h = some r := by
  rcases hm : md f with _ | _ | _ | _ | k
  · simp only [callM, hm] at hx ⊢
    split at hx
    · rename_i ha
      rw [if_pos ha]
      split at hx
      · rename_i heq
        rw [hc _ _ _ _ _ heq]
        exact hx
      · cases hx
    · rename_i ha
      rw [if_neg ha]
      split at hx
      · rename_i heq
        rw [hc _ _ _ _ _ heq]
        exact hx
      · cases hx
  · simp only [callM, hm] at hx ⊢
    split at hx
    · rename_i heq
      rw [hc _ _ _ _ _ heq]
      exact hx
    · cases hx
  · simp only [callM, hm] at hx ⊢
    exact hc _ _ _ _ _ hx
  · simp only [callM, hm] at hx ⊢
    split at hx
    · cases hx
    · split at hx
      · rename_i heq
        rw [hc _ _ _ _ _ heq]
        exact hx
      · cases hx
  · simp only [callM, hm] at hx ⊢
    exact hc _ _ _ _ _ hx
theorem opEv_mono (hc : Le c c') {cfg : Cfg} {fr : List V} {h : Heap} {op : Op} {r : V × Heap} (hx : opEv P md c cfg fr h op = some r) : opEv P md c' cfg fr h op = some r := by
  unfold opEv at hx ⊢
  split at hx
  · split at hx
    · exact callM_mono hc hx
    · cases hx
  · exact hx
theorem stepOp_mono (hc : Le c c') {cfg : Cfg} {ops : Array Oper} {o : Oper} {fr : List V} {h : Heap} {r : List V × Heap} (hx : stepOp P md c cfg ops o fr h = some r) : stepOp P md c' cfg ops o fr h = some r := by
  unfold stepOp at hx ⊢
  split at hx
  · split at hx
    · rename_i heq
      rw [opEv_mono hc heq]
      exact hx
    · cases hx
  · exact hx
  · cases hx
theorem runOps_mono (hc : Le c c') {cfg : Cfg} {ops : Array Oper} : ∀ {l : List Oper} {fr : List V} {h : Heap} {r : List V × Heap}, runOps P md c cfg ops l fr h = some r → runOps P md c' cfg ops l fr h = some r
  | [], _, _, _, hx => hx
  | o :: l, fr, h, r, hx => by
    unfold runOps at hx ⊢
    split at hx
    · rename_i heq
      rw [stepOp_mono hc heq]
      exact runOps_mono hc hx
    · cases hx
theorem headStep_mono (hc : Le c c') {cfg : Cfg} {ops : Array Oper} {o : Oper} {fr : List V} {h : Heap} {x : Option Nat} {ld : List Nat} {r : V × Heap × Option Nat × List Nat} (hx : headStep P md c cfg ops o fr h x ld = some r) : headStep P md c' cfg ops o fr h x ld = some r := by
  unfold headStep at hx ⊢
  split at hx
  · cases hx
  · exact hx
  · split at hx
    · split at hx
      · split at hx
        · split at hx
          · rename_i heq
            rw [callM_mono hc heq]
            exact hx
          · cases hx
        · split at hx
          · rename_i heq
            rw [callM_mono hc heq]
            exact hx
          · cases hx
        · split at hx
          · split at hx
            · rename_i hw
              split at hx
              · rename_i heq
                rw [if_pos hw, callM_mono hc heq]
                exact hx
              · cases hx
            · cases hx
          · cases hx
        · split at hx
          · rename_i heq
            rw [callM_mono hc heq]
            exact hx
          · cases hx
        · cases hx
      · cases hx
    · exact hx
    · exact hx
theorem headRun_mono (hc : Le c c') {cfg : Cfg} {ops : Array Oper} : ∀ {l : List Oper} {fr : List V} {h : Heap} {x : Option Nat} {ld : List Nat} {r : List V × Heap × Option Nat × List Nat}, headRun P md c cfg ops l fr h x ld = some r → headRun P md c' cfg ops l fr h x ld = some r
  | [], _, _, _, _, _, hx => hx
  | o :: l, fr, h, x, ld, r, hx => by
    unfold headRun at hx ⊢
    split at hx
    · rename_i heq
      rw [headStep_mono hc heq]
      exact headRun_mono hc hx
    · cases hx
theorem drawR_mono (hc : Le c c') {cfg : Cfg} {ops : Array Oper} {fr : List V} {h : Heap} {r : List V × Heap} (hx : drawR P md c cfg ops fr h = some r) : drawR P md c' cfg ops fr h = some r := by
  unfold drawR at hx ⊢
  simp only at hx ⊢
  split at hx
  · rename_i hok
    rw [if_pos hok]
    split at hx
    · rename_i heq
      rw [headRun_mono hc heq]
      simp only at hx ⊢
      split at hx
      · rename_i hl
        rw [if_pos hl]
        exact runOps_mono hc hx
      · cases hx
    · cases hx
  · cases hx
theorem iter_mono {b b' : List V → Heap → Option St} (hb : ∀ fr h r, b fr h = some r → b' fr h = some r) : ∀ {n : Nat} {fr : List V} {h : Heap} {r : St}, iter b n fr h = some r → iter b' n fr h = some r
  | 0, _, _, _, hx => by cases hx
  | n + 1, fr, h, r, hx => by
    unfold iter at hx ⊢
    split at hx
    · rename_i heq
      rw [hb _ _ _ heq]
      exact iter_mono hb hx
    · rename_i hne
      rw [hb _ _ _ hx]
      cases r with
      | mk e p =>
        cases e with
        | normal => exact absurd hx (hne _ _)
        | exit i => rfl
        | ret => rfl
theorem code_mono (hc : Le c c') {cfg : Cfg} : ∀ (cd : Code) {fr : List V} {h : Heap} {r : St}, code P md c (drawR P md c) cfg n cd fr h = some r → code P md c' (drawR P md c') cfg n cd fr h = some r := by
  intro cd
  induction cd with
  | skip => intro fr h r hx; exact hx
  | region i ops dr =>
    intro fr h r hx
    cases dr
    · simp only [code] at hx ⊢
      split at hx
      · rename_i heq
        rw [runOps_mono hc heq]
        exact hx
      · cases hx
    · simp only [code] at hx ⊢
      split at hx
      · rename_i heq
        rw [drawR_mono hc heq]
        exact hx
      · cases hx
  | seq a b iha ihb =>
    intro fr h r hx
    simp only [code] at hx ⊢
    split at hx
    · rename_i heq
      rw [iha heq]
      exact ihb hx
    · rename_i hne
      rw [iha hx]
      obtain ⟨e, p⟩ := r
      cases e with
      | normal => exact absurd hx (hne _ _)
      | exit i => rfl
      | ret => rfl
  | cond o a b iha ihb =>
    intro fr h r hx
    simp only [code] at hx ⊢
    split at hx
    · exact iha hx
    · exact ihb hx
    · cases hx
  | block i b ih =>
    intro fr h r hx
    simp only [code] at hx ⊢
    split at hx
    · rename_i heq
      rw [ih heq]
      exact hx
    · rename_i hne
      rw [ih hx]
      obtain ⟨e, p⟩ := r
      cases e with
      | normal => rfl
      | exit i => exact absurd hx (hne _ _ _)
      | ret => rfl
  | loop b ih =>
    intro fr h r hx
    simp only [code] at hx ⊢
    exact iter_mono (fun _ _ _ h => ih h) hx
  | _ => intro fr h r hx; exact hx
theorem fnEv_mono (hc : Le c c') {cfg : Cfg} {fn : Func} {args : List V} {h : Heap} {r : V × Heap} (hx : fnEv P md c (drawR P md c) n cfg fn args h = some r) : fnEv P md c' (drawR P md c') n cfg fn args h = some r := by
  unfold fnEv at hx ⊢
  split at hx
  · cases hx
  · split at hx
    · cases hx
    · rename_i hne heq
      rw [code_mono hc _ heq]
      split
      · rename_i h'
        cases h'
        exact absurd rfl (hne _)
      · rename_i h'
        cases h'
        exact hx
      · rename_i h'
        cases h'
    · cases hx
end
section
variable {P : Program} {md : FuncId → Nat} {prim : FuncId → Option Prim} {n : Nat}
theorem callN_mono : ∀ (d : Nat), Le (callN P md prim n d) (callN P md prim n (d + 1))
  | 0 => fun _ _ _ _ _ hx => by cases hx
  | d + 1 => fun cfg f args h r hx => by
    have ih := callN_mono d
    unfold callN at hx ⊢
    split at hx
    · exact hx
    · split at hx
      · cases hx
      · exact fnEv_mono ih hx
theorem callM_deep (d k : Nat) {cfg : Cfg} {f : FuncId} {args : List V} {h : Heap} {r : V × Heap} (hx : callM md (callN P md prim n d) cfg f args h = some r) : callM md (callN P md prim n (d + k)) cfg f args h = some r := by
  induction k with
  | zero => exact hx
  | succ k ih => exact callM_mono (callN_mono (d + k)) ih
end
end Go.Ab
namespace Go.Ab
open Go.Proofs
namespace Bi
noncomputable def pX (f : FuncId) : Option Prim := if f = 13 then some (memoP t13) else if f = 24 then some sortI else none
theorem pX_none (f : FuncId) (h : Np5 f) : pX f = none := by
  unfold pX
  rw [if_neg, if_neg]
  · rintro rfl
    exact absurd h (by decide)
  · rintro rfl
    exact absurd h (by decide)
theorem pX_ok : ∀ f p, pX f = some p → PrimOK Tryz.prog f p := by
  intro f p h
  unfold pX at h
  split at h
  · rename_i hf
    cases h
    subst hf
    exact pk36 _ _ (by rw [show ps36 = (13, t13) :: ps35 from rfl]; exact List.mem_cons_self ..)
  · split at h
    · rename_i hf
      cases h
      subst hf
      exact sortIPrim_ok
    · cases h
theorem pX_sort : pX 24 = some sortI := rfl
theorem awakeX (d : Nat) (cfg : Cfg) (h : Heap) : callM md (K pX (d + 1)) cfg 13 [] h = some (.bool true, h) := by kernel_rfl
set_option maxHeartbeats 4000000 in
set_option maxRecDepth 100000 in
theorem expands_ok (d : Nat) (l : List Int) : ∃ v h', callN Tryz.prog md pX 10000 (d + 11) ⟨0, none, 0⟩ 3 [il l] [] = some (v, h') ∧ v = .bool true := by
  have hA := fun cfg h => awakeX (d + 9) cfg h
  have hNw := fun cfg h => new_ok (prim := pX) (d + 9) cfg h (pX_none _ (by decide)) l
  have hL : (l.take 4000).length ≤ 4000 := by simp; omega
  refine callN_of (R := fun r _ => r = .bool true) (pX_none _ (by decide)) Tryz.func3 rfl rfl rfl ?_
  generalize hLL : l.take 4000 = L at *
  obtain ⟨p, ls, k0, hpt, hls, hlr, hk0, hBu⟩ := built_ok (prim := pX) d pX_none L hL
  rw [show ((0 : Nat) : Int) = 0 from rfl] at hBu
  obtain ⟨hlf, hmp, s0, s1, s2, s3, s4, l5, t5⟩ := pslots p
  have mE : md 10 = 0 := rfl
  have mI : md 12 = 0 := rfl
  have hpp : putAt [.nils, .nils, .int .i64 0, .int .i64 0, .int .i64 0] 0 (parC p) = parC p := rfl
  simp (disch := omega) [hNw, hBu, hlf, hmp, l5, s0, hpp]
  refine wC_loop (fun m fr H => ∃ (i k : Nat) (X : Heap), i ≤ 5 ∧ m = 5 - i ∧ k ≤ L.length ∧ H = some [il L, .int .i64 k] :: some (parC p) :: X ∧
    Slots 100 [(3, .ptr 0 0), (4, .ptr 1 0), (5, .lst (ls.map linF)), (6, .int .i64 p.t.length), (7, .int .i64 i)] fr) (m := 5) (by omega) ⟨0, k0, [], by omega, by omega, hk0, rfl, by simp⟩ ?_
  rintro m fr H ⟨i, k, X, hi, rfl, hk, rfl, hs⟩
  obtain ⟨j, rfl⟩ := hs.ex
  clear hs
  by_cases hlt : i < 5
  · have hI : (i : Int) < 5 := by omega
    have hiw : IntKind.i64.wrap ((i : Int) + 1) = ((i + 1 : Nat) : Int) := by rw [wrap64 (by omega) (by omega)]; omega
    obtain ⟨v1, k1, hv1, hk1, hN1⟩ := N_all (prim := pX) (d + 9) pX_none L k hL hk ((p.t.length : Int) + 1) (by omega) (by omega)
    have hN1' := hN1 ⟨0, none, 0⟩ (some [il L, .int .i64 k] :: some (parC p) :: X) 0 rfl rfl
    simp only [List.set_cons_zero] at hN1'
    simp (disch := omega) [hI, hN1', wrap64]
    obtain ⟨v2, k2, hv2, hk2, hN2⟩ := N_all (prim := pX) (d + 9) pX_none L k1 hL hk1 ((p.t.length : Int) - v1 + 1) (by omega) (by omega)
    have hN2' := fun lo thr => hN2 ⟨lo, some 0, thr⟩ (some [il L, .int .i64 k1] :: some (parC p) :: (X ++ [some [.int .i64 v1, .int .i64 0]])) 0 rfl (by simp [Cfg.wr])
    simp only [List.set_cons_zero] at hN2'
    refine wC_draw 9 (by kernel_rfl) ?_
    simp (disch := omega) [wrap64, md_N, hN2']
    obtain ⟨u, k3, hu1, hu5, hk3, hR⟩ := R_all (prim := pX) (d + 8) pX_none L k2 hL hk2 1 5 (by omega) (by omega) (by omega)
    have hR' := hR ⟨0, none, 0⟩ (some [il L, .int .i64 k2] :: some (parC p) :: (X ++ [some [.int .i64 v1, .int .i64 ((v1 : Int) + v2)]])) 0 rfl rfl
    simp only [List.set_cons_zero] at hR'
    obtain ⟨_, ⟨b, rfl, hbl, hbn⟩, hB⟩ := bnds_ex (prim := pX) (d + 3) pX_none pX_sort p (by omega) ls hls hlr u hu1 hu5
    have hB10 := fun cfg h => callM_deep (d + 9) 1 (hB cfg h)
    have hE := fun cfg h => expand_ok (prim := pX) (d + 8) pX_none cfg h p ls u b hbl hbn hB v1 ((v1 : Int) + v2) (by omega) (by omega) (by omega)
    obtain ⟨m1, m2, m3, m4, m5, m6, m7, m8, m9, m10⟩ := Tx.wh_all (f := v1) (t := (v1 : Int) + v2) hbn (by omega) (by omega) (by omega)
    generalize Tx.whT (Tx.whF v1 p.t.length b 0) ((v1 : Int) + v2) p.t.length b = y at *
    generalize Tx.whF v1 p.t.length b 0 = x at *
    have hE2 := fun cfg h => expand_ok (prim := pX) (d + 8) pX_none cfg h p ls u b hbl hbn hB x y m5 m6 m7
    rw [m9, m10] at hE2
    have hIn := fun cfg h z => rin_ok (prim := pX) (d + 9) cfg h pX_none b (by omega) z
    have q1 : ¬ y < (v1 : Int) + v2 := by omega
    have q2 : ¬ (v1 : Int) < x := by omega
    simp (disch := omega) [hR', hE, hB10, hmp, l5, t5]
    refine wC_draw 44 (by kernel_rfl) ?_
    by_cases hn0 : 0 < p.t.length
    · have q3 : ¬ y ≤ x := by have := m8 (by omega); omega
      simp (disch := omega) [hmp, l5, t5, q1, q2, q3, hn0, hIn, hE2, mE, mI, m1, m2, hiw]
      exact Rnd_of (m' := 5 - (i + 1)) (by omega) ⟨i + 1, k3, _, by omega, by omega, hk3, rfl, by simp⟩
    · simp (disch := omega) [hmp, l5, t5, q1, q2, hn0, hIn, hE2, mE, mI, m1, m2, hiw]
      exact Rnd_of (m' := 5 - (i + 1)) (by omega) ⟨i + 1, k3, _, by omega, by omega, hk3, rfl, by simp⟩
  · obtain rfl : i = 5 := by omega
    simp (disch := omega) [hA]
end Bi
end Go.Ab
