/- Several texts of this proof in one. -/
import Derived.Test.YtoappddifbgegaaGreatAbW3
import Derived.Test.YtoappddifbgegaaGreatPbL
set_option linter.all false
namespace Go.Ab
def LeC (c c' : Callf) : Prop := ∀ cfg f args h r, c cfg f args h = some r → c' cfg f args h = some r
section
variable {P : Program} {md : FuncId → Nat} {c c' : Callf} {n : Nat}
theorem callM_mono (hc : LeC c c') {cfg : Cfg} {f : FuncId} {args : List V} {h : Heap} {r : V × Heap} (hx : callM md c cfg f args h = some r) : callM md c' cfg f args h = some r := by
  rcases hm : md f with _ | _ | _ | _ | _ | k
  · simp only [callM, hm] at hx ⊢
    split at hx
    · rename_i ha
      rw [if_pos ha]
      split at hx
      · rename_i heq
        rw [hc _ _ _ _ _ heq]
        exact hx
      · cases hx
    · rename_i ha
      rw [if_neg ha]
      split at hx
      · rename_i heq
        rw [hc _ _ _ _ _ heq]
        exact hx
      · cases hx
  · simp only [callM, hm] at hx ⊢
    split at hx
    · rename_i heq
      rw [hc _ _ _ _ _ heq]
      exact hx
    · cases hx
  · simp only [callM, hm] at hx ⊢
    exact hc _ _ _ _ _ hx
  · simp only [callM, hm] at hx ⊢
    split at hx
    · cases hx
    · split at hx
      · rename_i heq
        rw [hc _ _ _ _ _ heq]
        exact hx
      · cases hx
  · simp only [callM, hm] at hx ⊢
    split at hx
    · rename_i heq
      rw [hc _ _ _ _ _ heq]
      exact hx
    · cases hx
  · simp only [callM, hm] at hx ⊢
    exact hc _ _ _ _ _ hx
theorem opEv_mono (hc : LeC c c') {cfg : Cfg} {fr : List V} {h : Heap} {op : Op} {r : V × Heap} (hx : opEv P md c cfg fr h op = some r) : opEv P md c' cfg fr h op = some r := by
  unfold opEv at hx ⊢
  split at hx
  · split at hx
    · exact callM_mono hc hx
    · cases hx
  · exact hx
theorem stepOp_mono (hc : LeC c c') {cfg : Cfg} {ops : Array Oper} {o : Oper} {fr : List V} {h : Heap} {r : List V × Heap} (hx : stepOp P md c cfg ops o fr h = some r) : stepOp P md c' cfg ops o fr h = some r := by
  unfold stepOp at hx ⊢
  split at hx
  · split at hx
    · rename_i heq
      rw [opEv_mono hc heq]
      exact hx
    · cases hx
  · exact hx
  · cases hx
theorem runOps_mono (hc : LeC c c') {cfg : Cfg} {ops : Array Oper} : ∀ {l : List Oper} {fr : List V} {h : Heap} {r : List V × Heap}, runOps P md c cfg ops l fr h = some r → runOps P md c' cfg ops l fr h = some r
  | [], _, _, _, hx => hx
  | o :: l, fr, h, r, hx => by
    unfold runOps at hx ⊢
    split at hx
    · rename_i heq
      rw [stepOp_mono hc heq]
      exact runOps_mono hc hx
    · cases hx
theorem headStep_mono (hc : LeC c c') {cfg : Cfg} {n0 : Nat} {ops : Array Oper} {o : Oper} {fr : List V} {h : Heap} {x : List Nat} {ld : List Nat} {r : V × Heap × List Nat × List Nat} (hx : headStep P md c cfg n0 ops o fr h x ld = some r) : headStep P md c' cfg n0 ops o fr h x ld = some r := by
  unfold headStep at hx ⊢
  split at hx
  · cases hx
  · exact hx
  · split at hx
    · split at hx
      · split at hx
        · split at hx
          · rename_i heq
            rw [callM_mono hc heq]
            exact hx
          · cases hx
        · split at hx
          · rename_i heq
            rw [callM_mono hc heq]
            exact hx
          · cases hx
        · split at hx
          · split at hx
            · rename_i hw
              split at hx
              · rename_i heq
                rw [if_pos hw, callM_mono hc heq]
                exact hx
              · cases hx
            · cases hx
          · cases hx
        · split at hx
          · rename_i heq
            rw [callM_mono hc heq]
            exact hx
          · cases hx
        · split at hx
          · rename_i hw
            split at hx
            · rename_i heq
              rw [if_pos hw, callM_mono hc heq]
              exact hx
            · cases hx
          · cases hx
      · cases hx
    · exact hx
    · exact hx
theorem headRun_mono (hc : LeC c c') {cfg : Cfg} {n0 : Nat} {ops : Array Oper} : ∀ {l : List Oper} {fr : List V} {h : Heap} {x : List Nat} {ld : List Nat} {r : List V × Heap × List Nat × List Nat}, headRun P md c cfg n0 ops l fr h x ld = some r → headRun P md c' cfg n0 ops l fr h x ld = some r
  | [], _, _, _, _, _, hx => hx
  | o :: l, fr, h, x, ld, r, hx => by
    unfold headRun at hx ⊢
    split at hx
    · rename_i heq
      rw [headStep_mono hc heq]
      exact headRun_mono hc hx
    · cases hx
theorem drawR1_mono (hc : LeC c c') {cfg : Cfg} {ops : Array Oper} {fr : List V} {h : Heap} {r : List V × Heap} (hx : drawR1 P md c cfg ops fr h = some r) : drawR1 P md c' cfg ops fr h = some r := by
  unfold drawR1 at hx ⊢
  simp only at hx ⊢
  split at hx
  · rename_i hok
    rw [if_pos hok]
    split at hx
    · rename_i heq
      rw [headRun_mono hc heq]
      simp only at hx ⊢
      split at hx
      · rename_i hl
        rw [if_pos hl]
        exact runOps_mono hc hx
      · cases hx
    · cases hx
  · cases hx
theorem stepO_mono (hc : LeC c c') {cfg : Cfg} {n0 : Nat} {o : Oper} {fr : List V} {h : Heap} {x ld : List Nat} {r : V × Heap × List Nat × List Nat} (hx : stepO P md c cfg n0 o fr h x ld = some r) : stepO P md c' cfg n0 o fr h x ld = some r := by
  unfold stepO at hx ⊢
  split at hx
  · split at hx
    · split at hx
      · rename_i hm
        split at hx
        · rename_i heq
          rw [if_pos hm, opEv_mono hc heq]
          exact hx
        · cases hx
      · cases hx
    · cases hx
  all_goals exact hx
theorem runO_mono (hc : LeC c c') {cfg : Cfg} {n0 : Nat} : ∀ {l : List Oper} {fr : List V} {h : Heap} {x ld : List Nat} {r : List V × Heap × List Nat × List Nat}, runO P md c cfg n0 l fr h x ld = some r → runO P md c' cfg n0 l fr h x ld = some r
  | [], _, _, _, _, _, hx => hx
  | o :: l, fr, h, x, ld, r, hx => by
    unfold runO at hx ⊢
    split at hx
    · rename_i heq
      rw [stepO_mono hc heq]
      exact runO_mono hc hx
    · cases hx
theorem drawO_mono (hc : LeC c c') {cfg : Cfg} {ops : Array Oper} {fr : List V} {h : Heap} {r : List V × Heap} (hx : drawO P md c cfg ops fr h = some r) : drawO P md c' cfg ops fr h = some r := by
  unfold drawO at hx ⊢
  split at hx
  · rename_i heq
    rw [runO_mono hc heq]
    exact hx
  · cases hx
theorem drawR_mono (hc : LeC c c') {cfg : Cfg} {ops : Array Oper} {fr : List V} {h : Heap} {r : List V × Heap} (hx : drawR P md c cfg ops fr h = some r) : drawR P md c' cfg ops fr h = some r := by
  unfold drawR at hx ⊢
  split at hx
  · rename_i hp
    rw [if_pos hp]
    split at hx
    · split at hx
      · split at hx
        · exact drawR1_mono hc hx
        · cases hx
      · cases hx
    · cases hx
  · rename_i hp
    rw [if_neg hp]
    split at hx
    · rename_i hp2
      rw [if_pos hp2]
      exact hx
    rename_i hp2
    rw [if_neg hp2]
    split at hx
    · rename_i heq
      rw [drawR1_mono hc heq]
      exact hx
    · split at hx
      · rename_i ho
        have h2 := drawO_mono hc hx
        cases hq : drawR1 P md c' cfg ops fr h with
        | some r' => rw [drawO_same ho hq h2]
        | none =>
          simp only
          rw [if_pos ho]
          exact h2
      · cases hx
theorem iter_mono {b b' : List V → Heap → Option St} (hb : ∀ fr h r, b fr h = some r → b' fr h = some r) : ∀ {n : Nat} {fr : List V} {h : Heap} {r : St}, iter b n fr h = some r → iter b' n fr h = some r
  | 0, _, _, _, hx => by cases hx
  | n + 1, fr, h, r, hx => by
    unfold iter at hx ⊢
    split at hx
    · rename_i heq
      rw [hb _ _ _ heq]
      exact iter_mono hb hx
    · rename_i hne
      rw [hb _ _ _ hx]
      cases r with
      | mk e p =>
        cases e with
        | normal => exact absurd hx (hne _ _)
        | exit i => rfl
        | ret => rfl
theorem code_mono (hc : LeC c c') {cfg : Cfg} : ∀ (cd : Code) {fr : List V} {h : Heap} {r : St}, code P md c (drawR P md c) cfg n cd fr h = some r → code P md c' (drawR P md c') cfg n cd fr h = some r := by
  intro cd
  induction cd with
  | skip => intro fr h r hx; exact hx
  | region i ops dr =>
    intro fr h r hx
    cases dr
    · simp only [code] at hx ⊢
      split at hx
      · rename_i heq
        rw [runOps_mono hc heq]
        exact hx
      · cases hx
    · simp only [code] at hx ⊢
      split at hx
      · rename_i heq
        rw [drawR_mono hc heq]
        exact hx
      · cases hx
  | seq a b iha ihb =>
    intro fr h r hx
    simp only [code] at hx ⊢
    split at hx
    · rename_i heq
      rw [iha heq]
      exact ihb hx
    · rename_i hne
      rw [iha hx]
      obtain ⟨e, p⟩ := r
      cases e with
      | normal => exact absurd hx (hne _ _)
      | exit i => rfl
      | ret => rfl
  | cond o a b iha ihb =>
    intro fr h r hx
    simp only [code] at hx ⊢
    split at hx
    · exact iha hx
    · exact ihb hx
    · cases hx
  | block i b ih =>
    intro fr h r hx
    simp only [code] at hx ⊢
    split at hx
    · rename_i heq
      rw [ih heq]
      exact hx
    · rename_i hne
      rw [ih hx]
      obtain ⟨e, p⟩ := r
      cases e with
      | normal => rfl
      | exit i => exact absurd hx (hne _ _ _)
      | ret => rfl
  | loop b ih =>
    intro fr h r hx
    simp only [code] at hx ⊢
    exact iter_mono (fun _ _ _ h => ih h) hx
  | _ => intro fr h r hx; exact hx
theorem fnEv_mono (hc : LeC c c') {cfg : Cfg} {fn : Func} {args : List V} {h : Heap} {r : V × Heap} (hx : fnEv P md c (drawR P md c) n cfg fn args h = some r) : fnEv P md c' (drawR P md c') n cfg fn args h = some r := by
  unfold fnEv at hx ⊢
  split at hx
  · cases hx
  · split at hx
    · cases hx
    · rename_i hne heq
      rw [code_mono hc _ heq]
      split
      · rename_i h'
        cases h'
        exact absurd rfl (hne _)
      · rename_i h'
        cases h'
        exact hx
      · rename_i h'
        cases h'
    · cases hx
end
section
variable {P : Program} {md : FuncId → Nat} {prim : FuncId → Option Prim} {n : Nat}
theorem callN_mono : ∀ (d : Nat), LeC (callN P md prim n d) (callN P md prim n (d + 1))
  | 0 => fun _ _ _ _ _ hx => by cases hx
  | d + 1 => fun cfg f args h r hx => by
    have ih := callN_mono d
    unfold callN at hx ⊢
    split at hx
    · exact hx
    · split at hx
      · cases hx
      · exact fnEv_mono ih hx
end
end Go.Ab
namespace Go.Ab
open Go.Proofs
section
variable {P : Program} {md : FuncId → Nat} {prim : FuncId → Option Prim} {n : Nat}
theorem callN_ext {prim' : FuncId → Option Prim} {g : FuncId} {q : Prim} {D : Nat} (h1 : ∀ f, f ≠ g → prim' f = prim f) (h2 : prim' g = some q)
    (h3 : ∀ cfg args h r, callN P md prim n D cfg g args h = some r → q cfg args h = some r) : ∀ d, d ≤ D → LeC (callN P md prim n d) (callN P md prim' n d)
  | 0, _ => fun _ _ _ _ _ hx => by cases hx
  | d + 1, hd => fun cfg f args h r hx => by
    have ih := callN_ext h1 h2 h3 d (by omega)
    by_cases hf : f = g
    · subst hf
      have hx' : callN P md prim n D cfg f args h = some r := by
        obtain ⟨k, rfl⟩ : ∃ k, D = d + 1 + k := ⟨D - (d + 1), by omega⟩
        clear hd ih
        induction k with
        | zero => exact hx
        | succ k ihk => exact callN_mono (d + 1 + k) _ _ _ _ _ (ihk (fun cfg args h r hx => h3 _ _ _ _ (callN_mono (d + 1 + k) _ _ _ _ _ hx)))
      simp only [callN, h2]
      exact h3 _ _ _ _ hx'
    · unfold callN at hx ⊢
      rw [h1 f hf]
      split at hx
      · exact hx
      · split at hx
        · cases hx
        · exact fnEv_mono ih hx
noncomputable def qP (P : Program) (md : FuncId → Nat) (prim : FuncId → Option Prim) (g : FuncId) (alt : Prim) : Prim := fun cfg args h => match callN P md prim 10000 60 cfg g args h with
  | some r => some r
  | none => alt cfg args h
noncomputable def upP (P : Program) (md : FuncId → Nat) (prim : FuncId → Option Prim) (g : FuncId) (alt : Prim) (f : FuncId) : Option Prim := if f = g then some (qP P md prim g alt) else prim f
theorem upP_ok (hm : P.follows .mixedOrders = true) (hN : Named P) (hp : ∀ f p, prim f = some p → PrimOK P f p) {g : FuncId} {alt : Prim} (ha : PrimOK P g alt) : ∀ f p, upP P md prim g alt f = some p → PrimOK P f p := by
  intro f p h
  unfold upP at h
  split at h
  · rename_i hf
    cases h
    subst hf
    intro cfg args h r h' hx
    unfold qP at hx
    split at hx
    · rename_i heq
      cases hx
      exact callN_ok hm hN hp 60 _ _ _ _ _ _ heq
    · exact ha _ _ _ _ _ hx
  · exact hp f p h
theorem upP_le {g : FuncId} {alt : Prim} : ∀ d, d ≤ 60 → LeC (callN P md prim 10000 d) (callN P md (upP P md prim g alt) 10000 d) :=
  callN_ext (q := qP P md prim g alt) (fun f hf => if_neg hf) (if_pos rfl) fun cfg args h r hx => by simp only [qP, hx]
end
namespace Bi
noncomputable def clK (g : FuncId) : Prim := fun cfg args h => callN Tryz.prog md (fun _ => none) 10000 30 cfg g args h
theorem clK_ok (g : FuncId) : PrimOK Tryz.prog g (clK g) := fun _ _ _ _ _ hx => callN_ok Aw.hfol Aw.hnam (fun _ _ h => by cases h) 30 _ _ _ _ _ _ hx
theorem clC_ok : PrimOK Tryz.prog 83 (cloneP (clK 83)) :=
  cloneP_ok (clK_ok _) (b2 := 1) (k := 2) (h2' := [none, some []]) (by kernel_rfl) (by kernel_rfl)
theorem clM_ok : PrimOK Tryz.prog 122 (cloneP (clK 122)) :=
  cloneP_ok (clK_ok _) (b2 := 1) (k := 2) (h2' := [none, some []]) (by kernel_rfl) (by kernel_rfl)
noncomputable def pM1 : FuncId → Option Prim := upP Tryz.prog md pT 83 (cloneP (clK 83))
noncomputable def pM2 : FuncId → Option Prim := upP Tryz.prog md pM1 122 (cloneP (clK 122))
noncomputable def pM : FuncId → Option Prim := upP Tryz.prog md pM2 63 (memoP Aw.t63)
theorem pM_ok : ∀ f p, pM f = some p → PrimOK Tryz.prog f p :=
  upP_ok Aw.hfol Aw.hnam (upP_ok Aw.hfol Aw.hnam (upP_ok Aw.hfol Aw.hnam pT_ok clC_ok) clM_ok) (Aw.pk24 _ _ List.mem_cons_self)
theorem toM {d : Nat} (hd : d ≤ 60) {cfg : Cfg} {f : FuncId} {args : List V} {h : Heap} {r : V × Heap} (hx : callM md (K pT d) cfg f args h = some r) : callM md (K pM d) cfg f args h = some r :=
  callM_mono (fun _ _ _ _ _ hx => upP_le d hd _ _ _ _ _ (upP_le d hd _ _ _ _ _ (upP_le d hd _ _ _ _ _ hx))) hx
def rowF (t : Tbl) (i : Nat) : V := match t[i]? with
  | some (_, r, h) => (frz h 0 6 r).getD .no
  | none => .no
def LL : List (List V) := match rowF Aw.t63 0 with
  | .tup (.lst x :: _) => x
  | _ => []
def fs0 : List Fnt := [⟨16, 12, 4, 0, 16, [], [], []⟩, ⟨16, 12, 4, 0, 20, [], [], []⟩]
def par0 : List V := [.lst [], .lst [[.int .i64 0, .int .i64 0, .int .i64 0, .int .i64 10]], .int .i64 0, .int .i64 0, .int .i64 1000]
theorem linesM (d : Nat) (cfg : Cfg) (h : Heap) : callM md (K pM (d + 1)) cfg 63 [.agg par0, .lst (fs0.map fntC)] h = some (.tup [.lst LL, .int .i64 0], h) := by kernel_rfl
theorem cloneM1 (d : Nat) (cfg : Cfg) (h : Heap) (n m : Int) : callM md (K pM (d + 1)) cfg 122 [.lst [[.int .i64 n, .int .i64 m]]] h = some (.lst [[.int .i64 n, .int .i64 m]], h) := by kernel_rfl
theorem fontM (d : Nat) (cfg : Cfg) (h : Heap) : callM md (K pM (d + 1)) cfg 19 [] h = some (.lst (fs0.map fntC), h) := by kernel_rfl
end Bi
end Go.Ab
namespace Go.Ab
open Go.Proofs
namespace Bi
attribute [local congr] wGq_congr
abbrev nn : V := .lst []
def edtC (T : List Int) : List V := [.int .i64 0, .int .i64 0, rl T, .lst [[.int .i64 T.length, .int .i64 0]]]
theorem edt_sl (T : List Int) : (edtC T).length = 4 ∧ isMap (edtC T) = false ∧ (∀ x ∈ edtC T, x.leaf = true) ∧ (edtC T).take 4 = edtC T ∧ slot (edtC T) 0 = some (.int .i64 0) ∧ slot (edtC T) 1 = some (.int .i64 0) ∧ slot (edtC T) 2 = some (rl T) ∧ ((edtC T).drop 2).take 2 = [rl T, .lst [[.int .i64 T.length, .int .i64 0]]] :=
  ⟨rfl, rfl, by simp [edtC], rfl, rfl, rfl, rfl, rfl⟩
structure TxT (T : List Int) : Prop where
  len : T.length ≤ 100
  ne : T ≠ []
  sc : T.all scal = true
theorem TxT.val {T : List Int} (h : TxT T) : valB T [((T.length : Int), 0)] = 0 := by
  have h1 := h.len
  have h2 := List.length_pos_iff.2 h.ne
  simp [valB, h.sc, badR, sumL, alikeL]
  omega
theorem valM (d : Nat) {T : List Int} (h : TxT T) (hd : d + 3 ≤ 60) (cfg : Cfg) (H : Heap) : callM md (K pM (d + 3)) cfg 29 [.agg [rl T, .lst [[.int .i64 T.length, .int .i64 0]]]] H = some (.int .i64 0, H) := by
  have := toM hd (validate_ok (prim := pT) d cfg H (pT_none _ (by decide)) (pT_none _ (by decide)) (pT_none _ (by decide)) (pT_none _ (by decide)) T [((T.length : Int), 0)] (by have := h.len; omega) (by simp))
  rw [h.val] at this
  exact this
theorem valM0 (d : Nat) (cfg : Cfg) (H : Heap) : callM md (K pM (d + 3)) cfg 29 [.agg [nn, nn]] H = some (.int .i64 0, H) := by kernel_rfl
theorem chkM (d : Nat) (hd : d + 4 ≤ 60) {T : List Int} (h : TxT T) (cfg : Cfg) (H : Heap) : callM md (K pM (d + 4)) cfg 196 [.agg [nn, nn], .agg (edtC T)] H = some (.int .i64 0, H) := by
  refine call0 rfl rfl Tryz.func196 rfl rfl rfl (by simp [edtC]) ?_
  obtain ⟨el, em, ef, et, e0, e1, e2, e3⟩ := edt_sl T
  have elq := eq_true ef
  have hV := fun cfg H => valM d h (by omega) cfg H
  have hV0 := fun cfg H => valM0 d cfg H
  have h1 := h.len
  have h2 : ¬ (2000 : Int) < T.length := by omega
  simp (disch := omega) [elq, em, el, et, e0, e1, e2, e3, hV, hV0, wrap64, h2]
theorem addM (d : Nat) {T : List Int} (h : TxT T) (A B C D E F : Option (List V)) :
    callM md (K pM (d + 1)) ⟨0, [], 0⟩ 76 [.ptr 3 0, rl T, .int .i64 0] [A, B, C, some [.nils, .nils], D, E, F] = some (.tup [], [A, B, C, some [.sl 7 0 T.length T.length 1, .sl 9 0 1 1 2], D, E, F, some (T.map (V.int .i32)), some [.int .i64 T.length, .int .i64 0], some [.int .i64 T.length, .int .i64 0]]) := by
  refine call2 rfl rfl Tryz.func76 rfl rfl rfl ?_
  have h0 := h.ne
  have hpos : 0 < T.length := List.length_pos_iff.2 h0
  have hlen := h.len
  have hn : ¬ T.length = 0 := by omega
  simp [hn, h0]
  rw [appD_nils (by omega) (by omega) hpos, wS_some]
  simp
  rw [appD_nils (by omega) (by omega) (by omega), wS_some]
  simp
theorem prtM0 (d : Nat) (A B C D : Option (List V)) (x y : Int) : callM md (K pM (d + 2)) ⟨0, [], 0⟩ 197 [.ptr 3 0, .agg [nn, nn], .int .i64 x, .int .i64 y, .func (.func 198) [] []] [A, B, C, D] = some (.tup [], [A, B, C, D, some [nn, nn]]) := by
  refine call2 rfl rfl Tryz.func197 rfl rfl rfl ?_
  simp
  refine wC_loop (fun m fr H => m = 0 ∧ H = [A, B, C, D, some [nn, nn]] ∧ Slots 50 [(16, nn), (17, .int .i64 0), (18, .int .i64 0)] fr) (m := 0) (by omega) ⟨rfl, rfl, by simp⟩ ?_
  rintro m fr H ⟨rfl, rfl, hs⟩
  obtain ⟨j, rfl⟩ := hs.ex
  clear hs
  simp
theorem prtM1 (d : Nat) (A B C D E F G I J L : Option (List V)) (x y : Int) : callM md (K pM (d + 2)) ⟨0, [], 0⟩ 197 [.ptr 3 0, .agg [nn, nn], .int .i64 x, .int .i64 y, .func (.func 198) [] []] [A, B, C, D, E, F, G, I, J, L] = some (.tup [], [A, B, C, D, E, F, G, I, J, L, some [nn, nn]]) := by
  refine call2 rfl rfl Tryz.func197 rfl rfl rfl ?_
  simp
  refine wC_loop (fun m fr H => m = 0 ∧ H = [A, B, C, D, E, F, G, I, J, L, some [nn, nn]] ∧ Slots 50 [(16, nn), (17, .int .i64 0), (18, .int .i64 0)] fr) (m := 0) (by omega) ⟨rfl, rfl, by simp⟩ ?_
  rintro m fr H ⟨rfl, rfl, hs⟩
  obtain ⟨j, rfl⟩ := hs.ex
  clear hs
  simp
theorem prtM (d : Nat) {T : List Int} (h : TxT T) (A B C D : Option (List V)) :
    callM md (K pM (d + 2)) ⟨0, [], 0⟩ 197 [.ptr 3 0, .agg [rl T, .lst [[.int .i64 T.length, .int .i64 0]]], .int .i64 0, .int .i64 T.length, .func (.func 198) [] []] [A, B, C, some [.nils, .nils], D] =
      some (.tup [], [A, B, C, some [.sl 7 0 T.length T.length 1, .sl 9 0 1 1 2], D, some [rl T, .lst [[.int .i64 T.length, .int .i64 0]]], some [.int .i64 T.length, .int .i64 0], some (T.map (V.int .i32)), some [.int .i64 T.length, .int .i64 0], some [.int .i64 T.length, .int .i64 0]]) := by
  refine call2 rfl rfl Tryz.func197 rfl rfl rfl ?_
  have hpos : 0 < T.length := List.length_pos_iff.2 h.ne
  have hlen := h.len
  have hA := addM d h A B C D (some [rl T, .lst [[.int .i64 T.length, .int .i64 0]]]) (some [.int .i64 T.length, .int .i64 0])
  have hS : ∀ cfg H m, callM md (K pM (d + 1)) cfg 198 [.int .i64 m] H = some (.int .i64 m, H) := fun cfg H m => by
    refine call0 rfl rfl Tryz.func198 rfl rfl rfl (by simp) ?_
    simp
  simp
  refine wC_loop (fun m fr H => ∃ (i : Nat) (at' : Int), i ≤ 1 ∧ m = 1 - i ∧ (i = 0 → at' = 0 ∧ H = [A, B, C, some [.nils, .nils], D, some [rl T, .lst [[.int .i64 T.length, .int .i64 0]]]]) ∧ (i = 1 → H = [A, B, C, some [.sl 7 0 T.length T.length 1, .sl 9 0 1 1 2], D, some [rl T, .lst [[.int .i64 T.length, .int .i64 0]]], some [.int .i64 T.length, .int .i64 0], some (T.map (V.int .i32)), some [.int .i64 T.length, .int .i64 0], some [.int .i64 T.length, .int .i64 0]]) ∧
    Slots 50 [(0, .ptr 3 0), (2, .int .i64 0), (3, .int .i64 T.length), (4, .func (.func 198) [] []), (6, .ptr 5 0), (10, .int .i64 at'), (16, .lst [[.int .i64 T.length, .int .i64 0]]), (17, .int .i64 1), (18, .int .i64 i)] fr) (m := 1) (by omega) ⟨0, 0, by omega, by omega, fun _ => ⟨rfl, rfl⟩, fun h => by omega, by simp⟩ ?_
  rintro m fr H ⟨i, at', hi, rfl, h1, h2, hs⟩
  obtain ⟨j, rfl⟩ := hs.ex
  clear hs
  rcases i with _ | i
  · obtain ⟨rfl, rfl⟩ := h1 rfl
    simp (disch := omega) [wrap64]
    refine wC_draw 10 (by kernel_rfl) ?_
    simp (disch := omega) [maxV, minV, wrap64, hpos]
    refine wC_draw 10 (by kernel_rfl) ?_
    obtain ⟨x, hx⟩ : ∃ x, T[0]? = some x := ⟨_, List.getElem?_eq_getElem hpos⟩
    have hx0 : (T.map fun n => [V.int .i32 n])[0]? = some [V.int .i32 x] := by simp [hx]
    have htk : (T.map fun n => [V.int .i32 n]).take T.length = T.map fun n => [V.int .i32 n] := List.take_of_length_le (by simp)
    have hmS : md 198 = 0 := rfl
    simp (disch := omega) [hx0, htk, hmS, hS, hA, wrap64, -List.getElem?_map]
    exact Rnd_of (m' := 0) (by omega) ⟨1, (T.length : Int), by omega, rfl, fun h => by omega, fun _ => rfl, by simp⟩
  · obtain rfl : i = 0 := by omega
    obtain rfl := h2 rfl
    simp
set_option maxHeartbeats 4000000 in
theorem appM (d : Nat) (hd : d + 5 ≤ 60) {T : List Int} (h : TxT T) (cfg : Cfg) (H : Heap) :
    callM md (K pM (d + 5)) cfg 129 [.agg [nn, nn], .agg (edtC T)] H = some (.tup [.agg [rl T, .lst [[.int .i64 T.length, .int .i64 0]]], .int .i64 0], H) := by
  refine call0 rfl rfl Tryz.func129 rfl rfl rfl (by simp [edtC]) ?_
  obtain ⟨el, em, ef, et, e0, e1, e2, e3⟩ := edt_sl T
  have elq := eq_true ef
  have hC := fun cfg H => chkM d (by omega) h cfg H
  have hP := fun A B C D => prtM (d + 2) h A B C D
  have hP0 := fun A B C D x y => prtM0 (d + 2) A B C D x y
  have hP1 := fun A B C D E F G I J L x y => prtM1 (d + 2) A B C D E F G I J L x y
  simp (disch := omega) [elq, em, el, et, e0, e1, e2, e3, hC, hP, hP0, hP1, wrap64]
  have f1 : ∀ (a b c e f g k l m x : Option (List V)), frz [a, b, c, e, f, g, k, some (T.map (V.int .i32)), l, m, x] 0 4 (.sl 7 0 T.length T.length 1) = some (rl T) := fun a b c e f g k l m x =>
    frz_ints (n := 0) (d := 2) (len := T.length) (cap := T.length) (by
      have : isMap (T.map (V.int .i32)) = false := by cases T <;> rfl
      simp [blockOf, this]) (by omega) rfl
  have f2 : ∀ (a b c e f g k l m x : Option (List V)), frz [a, b, c, e, f, g, k, l, m, some [.int .i64 T.length, .int .i64 0], x] 0 4 (.sl 9 0 1 1 2) = some (.lst [[.int .i64 T.length, .int .i64 0]]) := fun a b c e f g k l m x => by
    simp [frz, blockOf, isMap, chunk]
  simp [f1, f2]
theorem sliM (d : Nat) (cfg : Cfg) (H : Heap) : callM md (K pM (d + 3)) cfg 218 [.agg [nn, nn], .int .i64 0, .int .i64 0] H = some (.agg [nn, nn], H) := by kernel_rfl
theorem invM (d : Nat) (hd : d + 5 ≤ 60) {T : List Int} (h : TxT T) (cfg : Cfg) (H : Heap) :
    callM md (K pM (d + 5)) cfg 200 [.agg [nn, nn], .agg (edtC T)] H = some (.tup [.agg [.int .i64 0, .int .i64 T.length, nn, nn], .int .i64 0], H) := by
  refine call0 rfl rfl Tryz.func200 rfl rfl rfl (by simp [edtC]) ?_
  obtain ⟨el, em, ef, et, e0, e1, e2, e3⟩ := edt_sl T
  have elq := eq_true ef
  have hC := fun cfg H => chkM d (by omega) h cfg H
  have hS := fun cfg H => sliM (d + 1) cfg H
  have hmS : md 218 = 0 := rfl
  simp (disch := omega) [elq, em, el, et, e0, e1, e2, e3, hC, wrap64]
  refine wC_draw 15 (by kernel_rfl) ?_
  simp (disch := omega) [elq, em, el, et, e0, e1, e2, e3, hmS, hS, wrap64]
end Bi
end Go.Ab
namespace Go.Ab
open Go.Proofs
namespace Bi
attribute [local congr] wGq_congr
def invC (T : List Int) : List V := [.int .i64 0, .int .i64 T.length, nn, nn]
abbrev selC (n : Int) : List V := [.int .i64 n, .int .i64 n, .bool false]
def stpC (T : List Int) : List V := invC T ++ edtC T ++ selC 0 ++ selC T.length
theorem clnM (d : Nat) (T : List Int) (ht : T.length ≤ 2000) (cfg : Cfg) (h : Heap) (hlo : cfg.lo ≤ h.length) (hd : d + 1 ≤ 60) :
    callM md (K pM (d + 1)) cfg 61 [rl T] h = some (if T = [] then (.lst [], h) else (.sl (h.length + 1) 0 T.length T.length 1, h ++ [none, some (T.map (V.int .i32))])) :=
  toM hd (cloneR_ok (prim := pT) d rfl T ht cfg h hlo)
theorem clnM0 (d : Nat) (cfg : Cfg) (h : Heap) : callM md (K pM (d + 1)) cfg 61 [nn] h = some (nn, h) := by kernel_rfl
theorem ucl0 (d : Nat) (n : Int) (cfg : Cfg) (H : Heap) : callM md (K pM (d + 2)) cfg 201 [.agg [.int .i64 0, .int .i64 n, nn, nn]] H = some (.agg [.int .i64 0, .int .i64 n, nn, nn], H) := by kernel_rfl
theorem edt_s3 (T : List Int) : slot (edtC T) 3 = some (.lst [[.int .i64 T.length, .int .i64 0]]) := rfl
theorem uclM (d : Nat) (hd : d + 3 ≤ 60) {T : List Int} (h : TxT T) (cfg : Cfg) (H : Heap) : callM md (K pM (d + 2)) cfg 201 [.agg (edtC T)] H = some (.agg (edtC T), H) := by
  refine call0 rfl rfl Tryz.func201 rfl rfl rfl (by simp [edtC]) ?_
  obtain ⟨el, em, ef, et, e0, e1, e2, e3⟩ := edt_sl T
  have elq := eq_true ef
  have h0 := h.ne
  have hC := fun thr a b => clnM d T (by have := h.len; omega) ⟨2, [], thr⟩ [a, b] (by simp) (by omega)
  have hM := fun cfg H => cloneM1 d cfg H T.length 0
  have hmC : md 61 = 2 := rfl
  simp (disch := omega) [elq, em, el, et, e0, e1, e2, e3]
  refine wC_draw 7 (by kernel_rfl) ?_
  simp (disch := omega) [elq, em, el, et, e0, e1, e2, e3, edt_s3, hmC, hC, hM, h0]
  have f1 : ∀ a b c : Option (List V), frz [a, b, c, some (T.map (V.int .i32))] 0 5 (.sl 3 0 T.length T.length 1) = some (rl T) := fun a b c =>
    frz_ints (n := 0) (d := 3) (len := T.length) (cap := T.length) (by
      have : isMap (T.map (V.int .i32)) = false := by cases T <;> rfl
      simp [blockOf, this]) (by omega) rfl
  simp [edtC, f1]
theorem wthM (d : Nat) (a n : Int) (h : 0 ≤ a ∧ a ≤ n) (cfg : Cfg) (H : Heap) : callM md (K pM (d + 1)) cfg 199 [.agg (selC a), .int .i64 n] H = some (.bool true, H) := by
  refine call0 rfl rfl Tryz.func199 rfl rfl rfl (by simp) ?_
  obtain ⟨h1, h2⟩ := h
  simp [h1, h2]
set_option maxHeartbeats 4000000 in
theorem stpM (d : Nat) (hd : d + 6 ≤ 60) {T : List Int} (h : TxT T) (cfg : Cfg) (H : Heap) :
    callM md (K pM (d + 6)) cfg 131 [.agg [nn, nn], .agg (edtC T), .agg (selC 0), .agg (selC T.length)] H = some (.tup [.agg (stpC T), .int .i64 0], H) := by
  refine call0 rfl rfl Tryz.func131 rfl rfl rfl (by simp [edtC]) ?_
  obtain ⟨el, em, ef, et, e0, e1, e2, e3⟩ := edt_sl T
  have elq := eq_true ef
  have hA := fun cfg H => appM d (by omega) h cfg H
  have hI := fun cfg H => invM d (by omega) h cfg H
  have hU := fun cfg H => uclM (d + 3) (by omega) h cfg H
  have hmU : md 201 = 0 := rfl
  have hW := fun cfg H a n hn => wthM (d + 4) a n hn cfg H
  simp (disch := omega) [elq, em, el, et, e0, e1, e2, e3, hA, hI, hW]
  refine wC_draw 5 (by kernel_rfl) ?_
  simp (disch := omega) [elq, em, el, et, e0, e1, e2, e3, hmU, hU]
  simp [stpC, invC, edtC]
theorem stp_sl (T : List Int) : (stpC T).length = 14 ∧ isMap (stpC T) = false ∧ (∀ x ∈ stpC T, x.leaf = true) ∧ (stpC T).take 14 = stpC T ∧ (stpC T).take 4 = invC T ∧ ((stpC T).drop 4).take 4 = edtC T :=
  ⟨rfl, rfl, by simp [stpC, invC, edtC], rfl, rfl, rfl⟩
set_option maxHeartbeats 4000000 in
theorem clsM (d : Nat) (hd : d + 4 ≤ 60) {T : List Int} (h : TxT T) (cfg : Cfg) (H : Heap) : callM md (K pM (d + 3)) cfg 203 [.agg (stpC T)] H = some (.agg (stpC T), H) := by
  refine call0 rfl rfl Tryz.func203 rfl rfl rfl (by simp [stpC, invC, edtC]) ?_
  have hU := fun cfg H => uclM d (by omega) h cfg H
  have hU0 := fun cfg H => ucl0 d T.length cfg H
  have hmU : md 201 = 0 := rfl
  simp [stpC, invC, edtC] at hU ⊢
  refine wC_draw 7 (by kernel_rfl) ?_
  simp [hmU, hU, hU0, stpC, invC, edtC]
theorem cgr0 (d : Nat) (cfg : Cfg) (H : Heap) : callM md (K pM (d + 1)) cfg 191 [nn] H = some (.nils, H) := by kernel_rfl
theorem chi0 (d : Nat) (n : Int) (cfg : Cfg) (A B C : Option (List V)) : callM md (K pM (d + 2)) ⟨0, [], 0⟩ 123 [.agg [nn, nn, .bool false, .int .i64 n]] [A, B, C] = some (.agg [.nils, .nils, .bool false, .int .i64 n], [A, B, C, some [.nils, .nils, .bool false, .int .i64 n], some [.nils, .nils, .bool false, .int .i64 n]]) := by
  have hG := fun cfg H => cgr0 d cfg H
  have hmG : md 191 = 2 := rfl
  refine call2 rfl rfl Tryz.func123 rfl rfl rfl ?_
  simp
  refine wC_draw 7 (by kernel_rfl) ?_
  simp [hmG, hG]
end Bi
end Go.Ab
namespace Go.Ab
open Go.Proofs
namespace Bi
attribute [local congr] wGq_congr
def his0 : List V := [nn, nn, .bool false, .int .i64 0]
def grpC (T : List Int) : List V := [.int .i64 1, .int .i64 0, .lst [stpC T]]
def his1 (T : List Int) : List V := [.lst [grpC T], nn, .bool false, .int .i64 0]
theorem joiM (d : Nat) (s : List V) (hs : ∀ x ∈ s, x.rf = true) (hl : ∀ x ∈ s, x.leaf = true) (cfg : Cfg) (H : Heap) : callM md (K pM (d + 1)) cfg 202 [.agg his0, .agg s, .int .i64 1, .int .i64 0] H = some (.bool false, H) := by
  refine call0 rfl rfl Tryz.func202 rfl rfl rfl (by simp [his0]; exact hs) ?_
  have hlq := eq_true hl
  simp [his0, hlq]
set_option maxHeartbeats 4000000 in
theorem recM (d : Nat) (hd : d + 5 ≤ 60) {T : List Int} (h : TxT T) (cfg : Cfg) (H : Heap) :
    callM md (K pM (d + 4)) cfg 132 [.agg his0, .agg (stpC T), .int .i64 1, .int .i64 0] H = some (.tup [.agg (his1 T), .int .i64 0], H) := by
  refine call0 rfl rfl Tryz.func132 rfl rfl rfl (by simp [his0, stpC, invC, edtC]) ?_
  obtain ⟨el, em, ef, et, e0, e1⟩ := stp_sl T
  have elq := eq_true ef
  have hJ := fun cfg H => joiM (d + 2) (stpC T) (by simp [stpC, invC, edtC]) ef cfg H
  simp only [his0] at hJ
  have hC := fun cfg H => clsM d (by omega) h cfg H
  have hH := fun A B C => chi0 (d + 1) 0 ⟨0, [], 0⟩ A B C
  simp (disch := omega) [elq, em, el, et, hJ, hC, hH, his0, show putAt (stpC T) 0 (stpC T) = stpC T from rfl]
  rw [appD_nils (by omega) (by omega) (by omega), wS_some]
  simp (disch := omega) [elq, em, el, et]
  have f1 : ∀ a b c e f g : Option (List V), frz [a, b, c, e, f, some (stpC T), g, some [.int .i64 1, .int .i64 0, .sl 5 0 1 1 14]] 0 4 (.sl 7 0 1 1 3) = some (.lst [grpC T]) := fun a b c e f g => by kernel_rfl
  simp [f1, his1]
theorem snpM (d : Nat) (hd : d + 6 ≤ 60) {T : List Int} (h : T.length ≤ 100) (h0 : T ≠ []) (cfg : Cfg) (H : Heap) : callM md (K pM (d + 6)) cfg 125 [rl T, .int .i64 T.length] H = some (.int .i64 T.length, H) := by
  refine call0 rfl rfl Tryz.func125 rfl rfl rfl (by simp) ?_
  have hS := fun cfg H => toM (d := d + 5) (by omega) (stop_ok (prim := pT) d pT_none T (by omega) T.length cfg H)
  have hT : stpS T T.length = true := by
    unfold stpS cluS
    simp [h0]
  rw [hT] at hS
  simp [hS]
end Bi
end Go.Ab
namespace Go.Ab
open Go.Proofs
section
variable {P : Program} {md' : FuncId → Nat} {prim : FuncId → Option Prim} {n : Nat} {cfg : Cfg}
theorem call0q {d : Nat} {f : FuncId} {fn : Func} {c : Code} {k : Nat} {rs : List ResultVar} {args : List V} {h h2 : Heap} {r : V} (hm : md' f = 0) (hp : prim f = none) (hf : P.funcs[f]? = some fn) (hb : fn.body = some c) (hk : fn.ntmps = k)
    (hr : fn.results.toList = rs) (ha : args.all V.noref = false)
    (hw : @wC P md' (callN P md' prim n d) ⟨h.length, [], h.length⟩ n ⟨c⟩ (args ++ List.replicate (k - args.length) .no) h ⟨@kFn P ⟨rs⟩ ⟨fun r' h' => frz h' h.length 6 r' = some r ∧ h'.take h.length = h2⟩⟩) :
    callM md' (callN P md' prim n (d + 1)) cfg f args h = some (r, h2) := by
  obtain ⟨r', h', h1, h2, h3⟩ := callN_of hp hf hb hk hr hw
  simp only [callM, hm, ha, Bool.false_eq_true, if_false, h1, h2, h3]
end
namespace Bi
attribute [local congr] wGq_congr
def fntsV : V := .lst (fs0.map fntC)
def cL (m : Bool) (mo : Int) : ECf := ⟨m, false, mo, 0, 1, 10, 1000, 0, 0⟩
def eL (T : V) (R : V) (n : Int) (hs : List V) : List V := [T, R, .int .i64 n, .int .i64 n, .bool false, .bool false, .int .i64 0, .int .i64 0, nn, nn, .int .i64 0, .int .i64 0, nn] ++ hs ++ [.int .i64 (-1), .int .i64 (-1)]
def evC (t : List Int) : List V := [.int .i64 1, rl t, .nils, .nils, .int .i64 0, .int .i64 0, .bool false, .int .i64 0, .int .i64 0, .int .i64 0, .int .i64 0, .int .i64 0, .int .i64 0, .nils, .int .i64 0]
def jobC (m : Bool) (mo : Int) (t : List Int) (e : List V) (o : V) : List V := ecfC (cL m mo) ++ fntsV :: (evC t ++ (e ++ (par0 ++ (.lst LL :: [o, .nils, .nils]))))
def job0 (m : Bool) (mo : Int) (t : List Int) : List V := jobC m mo t (eL nn nn 0 his0) .nils
macro "jobs" l:(Lean.Parser.Tactic.location)? : tactic => `(tactic| simp only [job0, jobC, eL, evC, par0, his0, cL, ecfC, List.cons_append, List.nil_append] $(l)?)
theorem parM (d : Nat) (m : Bool) (mo : Int) (t : List Int) (cfg : Cfg) (A B C D E : Option (List V)) (R : Heap) :
    callM md (K pM (d + 1)) cfg 133 [.ptr 5 0] (A :: B :: C :: D :: E :: some (job0 m mo t) :: R) = some (.tup [.int .i64 0, .int .i64 0], A :: B :: C :: D :: E :: some (job0 m mo t) :: R) := by
  refine call0q rfl rfl Tryz.func133 rfl rfl rfl rfl ?_
  jobs
  simp
  refine wC_draw 27 (by kernel_rfl) ?_
  simp [minV, maxV]
  rfl
theorem typM (d : Nat) (m : Bool) (mo : Int) (t : List Int) (cfg : Cfg) (A B C D E : Option (List V)) (R : Heap) :
    callM md (K pM (d + 5)) cfg 134 [.ptr 5 0] (A :: B :: C :: D :: E :: some (job0 m mo t) :: R) = some (.int .i64 0, A :: B :: C :: D :: E :: some (job0 m mo t) :: R) := by
  refine call0q rfl rfl Tryz.func134 rfl rfl rfl rfl ?_
  have hP := fun cfg => parM (d + 3) m mo t cfg A B C D E R
  have hT : ∀ cfg H, callM md (K pM (d + 4)) cfg 162 [.agg [nn, nn], .int .i64 0] H = some (.int .i64 0, H) := fun cfg H => by kernel_rfl
  simp [hP]
  jobs
  simp [hT]
  rfl
theorem txtM (d : Nat) (m : Bool) (mo : Int) (t : List Int) (cfg : Cfg) (A B C D E : Option (List V)) (R : Heap) :
    callM md (K pM (d + 1)) cfg 85 [.ptr 5 0] (A :: B :: C :: D :: E :: some (job0 m mo t) :: R) = some (nn, A :: B :: C :: D :: E :: some (job0 m mo t) :: R) := by
  refine call0q rfl rfl Tryz.func85 rfl rfl rfl rfl ?_
  jobs
  simp
  rfl
theorem accM (d : Nat) (hd : d + 6 ≤ 60) (m : Bool) (mo : Int) (hmo : 1 ≤ mo ∧ mo ≤ 8) (t : List Int) (ht : t.length ≤ 100) (cfg : Cfg) (A B C D E : Option (List V)) (R : Heap) :
    callM md (K pM (d + 6)) cfg 127 [.ptr 5 0, rl t, .int .i64 0] (A :: B :: C :: D :: E :: some (job0 m mo t) :: R) = some (rl (takT (cL m mo) t), A :: B :: C :: D :: E :: some (job0 m mo t) :: R) := by
  refine call0q rfl rfl Tryz.func127 rfl rfl rfl rfl ?_
  have hX := fun cfg => txtM (d + 4) m mo t cfg A B C D E R
  have hS : ∀ cfg h, callM md (K pM (d + 5)) cfg 37 [rl t, .agg [.bool m, .bool false, .int .i64 mo, .int .i64 0, .int .i64 1, .int .i64 10, .int .i64 1000, .int .i64 0, .int .i64 0]] h = some (rl (t.map (spS (cL m mo))), h) := fun cfg h => toM (d := d + 5) (by omega) (spc_ok (prim := pT) d pT_none rfl (cL m mo) t (by omega) cfg h)
  have hF := fun cfg h => toM (d := d + 5) (by omega) (fit_ok (prim := pT) d pT_none (t.map (spS (cL m mo))) (by simp; omega) mo cfg h)
  obtain ⟨g1, g2⟩ := fitS_rng (t.map (spS (cL m mo))) mo
  obtain ⟨k, hk⟩ := Int.eq_ofNat_of_zero_le g1
  have hT : takT (cL m mo) t = (t.map (spS (cL m mo))).take k := by
    show (t.map (spS (cL m mo))).take (fitS (t.map (spS (cL m mo))) mo).toNat = _
    rw [hk]; rfl
  have hlen : (t.map (spS (cL m mo))).length ≤ 100 := by simp; omega
  rw [hT]
  rw [hk] at hF g2
  generalize t.map (spS (cL m mo)) = U at *
  jobs
  jobs at hX
  simp [hS]
  refine wC_draw 12 (by kernel_rfl) ?_
  obtain ⟨hm1, hm2⟩ := hmo
  have hmX : md 85 = 0 := rfl
  have hmF : md 38 = 0 := rfl
  simp (disch := omega) [hmX, hmF, hX, hF, wrap64]
  rfl
abbrev bufC (T : List Int) : List V := [rl T, .lst [[.int .i64 T.length, .int .i64 0]]]
theorem ownM (d : Nat) (hd : d + 2 ≤ 60) {T : List Int} (h : TxT T) (cfg : Cfg) (H : Heap) : callM md (K pM (d + 2)) cfg 82 [.agg (bufC T)] H = some (.agg (bufC T), H) := by
  refine call0 rfl rfl Tryz.func82 rfl rfl rfl (by simp) ?_
  have h0 := h.ne
  have hC := fun thr a b => clnM d T (by have := h.len; omega) ⟨2, [], thr⟩ [a, b] (by simp) (by omega)
  have hM := fun cfg H => cloneM1 d cfg H T.length 0
  have hmC : md 61 = 2 := rfl
  simp
  refine wC_draw 5 (by kernel_rfl) ?_
  simp [hmC, hC, hM, h0]
  have f1 : ∀ a b c : Option (List V), frz [a, b, c, some (T.map (V.int .i32))] 0 5 (.sl 3 0 T.length T.length 1) = some (rl T) := fun a b c =>
    frz_ints (n := 0) (d := 3) (len := T.length) (cap := T.length) (by
      have : isMap (T.map (V.int .i32)) = false := by cases T <;> rfl
      simp [blockOf, this]) (by omega) rfl
  simp [f1]
set_option maxHeartbeats 4000000 in
theorem addJ (d : Nat) (hd : d + 3 ≤ 60) {T : List Int} (h : TxT T) (m : Bool) (mo : Int) (t : List Int) (e : List V) (A B C D E F G I J L M N O P Q : Option (List V)) :
    callM md (K pM (d + 3)) ⟨0, [], 0⟩ 150 [.ptr 5 0, .agg (edtC T)] [A, B, C, D, E, some (jobC m mo t (eL (rl T) (.lst [[.int .i64 T.length, .int .i64 0]]) T.length (his1 T)) .nils), F, G, I, J, L, M, N, O, P, Q] =
      some (.tup [], [A, B, C, D, E, some (jobC m mo t (eL (rl T) (.lst [[.int .i64 T.length, .int .i64 0]]) T.length (his1 T)) (.sl 18 0 1 1 4)), F, G, I, J, L, M, N, O, P, Q, some (edtC T), some (edtC T), some (edtC T)]) := by
  refine call2 rfl rfl Tryz.func150 rfl rfl rfl ?_
  obtain ⟨el, em, ef, et, e0, e1, e2, e3⟩ := edt_sl T
  have elq := eq_true ef
  have hO := fun cfg H => ownM d (by omega) h cfg H
  simp only [jobC, eL, evC, par0, his1, cL, ecfC, List.cons_append, List.nil_append]
  have ee : setS (setS (edtC T) 2 (rl T)) 3 (.lst [[.int .i64 T.length, .int .i64 0]]) = edtC T := rfl
  simp (disch := omega) [elq, em, el, et, e0, e1, e2, e3, hO, ee]
  refine wC_draw 8 (by kernel_rfl) ?_
  simp (disch := omega) [elq, em, el, et, e0, e1, e2, e3]
  rw [appD_nils (by omega) (by omega) (by simp [edtC]), wS_some]
  simp
  rfl
end Bi
end Go.Ab
namespace Go.Ab
open Go.Proofs
namespace Bi
attribute [local congr] wGq_congr
def job1 (m : Bool) (mo : Int) (t T : List Int) : List V := jobC m mo t (eL (rl T) (.lst [[.int .i64 T.length, .int .i64 0]]) T.length (his1 T)) (.sl 18 0 1 1 4)
theorem repM (d : Nat) (hd : d + 7 ≤ 60) {T : List Int} (h : TxT T) (cfg : Cfg) (J : List V) (A B C D E F G I M N : Option (List V)) :
    callM md (K pM (d + 7)) cfg 204 [rl T, .ptr 9 0, .ptr 10 0] [A, B, C, D, E, some J, F, G, I, some [.int .i64 0], some (bufC T), M, N] =
      some (.agg (selC T.length), [A, B, C, D, E, some J, F, G, I, some [.int .i64 0], some (bufC T), M, N]) := by
  refine call0q rfl rfl Tryz.func204 rfl rfl rfl rfl ?_
  have hS := fun cfg H => snpM d (by omega) h.len h.ne cfg H
  have hlen := h.len
  simp (disch := omega) [hS, wrap64, Cfg.wr]
set_option maxRecDepth 100000 in
set_option maxHeartbeats 8000000 in
theorem ediM (d : Nat) (hd : d + 8 ≤ 60) {T : List Int} (h : TxT T) (m : Bool) (mo : Int) (t : List Int) (A B C D E F G I : Option (List V)) :
    callM md (K pM (d + 8)) ⟨0, [], 0⟩ 153 [.ptr 5 0, .agg (edtC T), .func (.func 204) [] [.ptr 9 0, .ptr 10 0], .int .i64 1] [A, B, C, D, E, some (job0 m mo t), F, G, I, some [.int .i64 0], some (bufC T)] =
      some (.int .i64 0, [A, B, C, D, E, some (job1 m mo t T), F, G, I, some [.int .i64 0], some (bufC T), some (edtC T), some (bufC T), some (selC T.length), some (stpC T), some (his1 T), some (edtC T), some (edtC T), some (edtC T)]) := by
  refine call2 rfl rfl Tryz.func153 rfl rfl rfl ?_
  obtain ⟨el, em, ef, et, e0, e1, e2, e3⟩ := edt_sl T
  have elq := eq_true ef
  obtain ⟨sl, sm, sf, st, s0, s1⟩ := stp_sl T
  have slq := eq_true sf
  have ep : putAt [.int .i64 0, .int .i64 0, .nils, .nils, .int .i64 0, .int .i64 0, .nils, .nils, .int .i64 0, .int .i64 0, .bool false, .int .i64 0, .int .i64 0, .bool false] 0 (stpC T) = stpC T := rfl
  have hA := fun cfg H => appM (d + 2) (by omega) h cfg H
  have hR := fun cfg J A B C D E F G I M N => repM d (by omega) h cfg J A B C D E F G I M N
  have hS := fun cfg H => stpM (d + 1) (by omega) h cfg H
  have hC := fun cfg H => recM (d + 3) (by omega) h cfg H
  have hD := fun A B C D E F G I J L M N O P Q => addJ (d + 4) (by omega) h m mo t [] A B C D E F G I J L M N O P Q
  have hmA : md 129 = 0 := rfl
  have hmS : md 131 = 0 := rfl
  have hmC : md 132 = 0 := rfl
  simp only [job0, job1, jobC, eL, evC, par0, his0, his1, cL, ecfC, List.cons_append, List.nil_append] at hD hC ⊢
  simp (disch := omega) [elq, em, el, et, e0, e1, e2, e3]
  refine wC_draw 11 (by kernel_rfl) ?_
  simp (disch := omega) [elq, em, el, et, e0, e1, e2, e3, hmA, hA, hR]
  refine wC_draw 17 (by kernel_rfl) ?_
  simp (disch := omega) [elq, em, el, et, e0, e1, e2, e3, slq, sl, sm, st, ep, hmS, hS]
  refine wC_draw 17 (by kernel_rfl) ?_
  simp (disch := omega) [slq, sl, sm, st, ep, hmC, hC]
  refine wC_draw 14 (by kernel_rfl) ?_
  simp (disch := omega) [elq, em, el, et, Cfg.wr, hD]
  exact ⟨rfl, rfl⟩
set_option maxRecDepth 100000 in
set_option maxHeartbeats 8000000 in
theorem rpcM (d : Nat) (hd : d + 9 ≤ 60) {T : List Int} (h : TxT T) (m : Bool) (mo : Int) (t : List Int) (A B C D E F G I : Option (List V)) :
    callM md (K pM (d + 9)) ⟨0, [], 0⟩ 135 [.ptr 5 0, .int .i64 0, .int .i64 0, .agg (bufC T), .int .i64 1] [A, B, C, D, E, some (job0 m mo t), F, G, I] =
      some (.int .i64 0, [A, B, C, D, E, some (job1 m mo t T), F, G, I, some [.int .i64 0], some (bufC T), some (edtC T), some (bufC T), some (selC T.length), some (stpC T), some (his1 T), some (edtC T), some (edtC T), some (edtC T)]) := by
  refine call2 rfl rfl Tryz.func135 rfl rfl rfl ?_
  have hE : callM md (K pM (d + 8)) ⟨0, [], 0⟩ 153 [.ptr 5 0, .agg [.int .i64 0, .int .i64 0, rl T, .lst [[.int .i64 T.length, .int .i64 0]]], .func (.func 204) [] [.ptr 9 0, .ptr 10 0], .int .i64 1] [A, B, C, D, E, some (job0 m mo t), F, G, I, some [.int .i64 0], some (bufC T)] = _   := ediM d (by omega) h m mo t A B C D E F G I
  have h0 := h.ne
  simp only [job1, jobC, eL, evC, par0, his1, cL, ecfC, List.cons_append, List.nil_append] at hE
  simp (disch := omega) [h0, hE, wrap64]
  exact ⟨rfl, rfl⟩
theorem rpcZ (d : Nat) (m : Bool) (mo : Int) (t : List Int) (A B C D E F G I : Option (List V)) :
    callM md (K pM (d + 9)) ⟨0, [], 0⟩ 135 [.ptr 5 0, .int .i64 0, .int .i64 0, .agg [nn, nn], .int .i64 1] [A, B, C, D, E, some (job0 m mo t), F, G, I] =
      some (.int .i64 0, [A, B, C, D, E, some (job0 m mo t), F, G, I, some [.int .i64 0], some [nn, nn]]) := by
  refine call2 rfl rfl Tryz.func135 rfl rfl rfl ?_
  simp
theorem job0_sl (m : Bool) (mo : Int) (t : List Int) : isMap (job0 m mo t) = false ∧ slot (job0 m mo t) 11 = some (rl t) := ⟨rfl, rfl⟩
set_option maxRecDepth 100000 in
theorem plnP (d : Nat) (hd : d + 3 ≤ 60) (m : Bool) (mo : Int) (t : List Int) (ht : t.length ≤ 100) (hs : t.all scal = true) (cfg : Cfg) (h : Heap) :
    callM md (K pM (d + 3)) cfg 39 [rl (takT (cL m mo) t), .int .i64 0] h = some (.tup [.agg [rl (takT (cL m mo) t), ml (rnZ (takT (cL m mo) t))], .int .i64 0], h) := by
  have hsT : (takT (cL m mo) t).all scal = true := by unfold takT; exact scal_sp hs _
  have hlT : (takT (cL m mo) t).length ≤ t.length := by unfold takT; simp; omega
  have key : ∀ T : List Int, T.length ≤ 2000 → callM md (K pM (d + 3)) cfg 39 [rl T, .int .i64 0] h = some (plnS T, h) := fun T hT => toM (by omega) (pln_ok (prim := pT) d pT_none T hT cfg h)
  have hB := key (takT (cL m mo) t) (by omega)
  have hp1 : plnS (takT (cL m mo) t) = .tup [.agg [rl (takT (cL m mo) t), ml (rnZ (takT (cL m mo) t))], .int .i64 0] := by simp [plnS, hsT]
  rw [hp1] at hB
  exact hB
set_option maxRecDepth 100000 in
set_option maxHeartbeats 8000000 in
theorem wriZ (d : Nat) (hd : d + 10 ≤ 60) (m : Bool) (mo : Int) (hmo : 1 ≤ mo ∧ mo ≤ 8) (t : List Int) (ht : t.length ≤ 100) (hs : t.all scal = true) (h0 : takT (cL m mo) t = []) (A B C D E F G : Option (List V)) :
    callM md (K pM (d + 10)) ⟨0, [], 0⟩ 89 [.ptr 5 0] [A, B, C, D, E, some (job0 m mo t), F, G] =
      some (.int .i64 0, [A, B, C, D, E, some (job0 m mo t), F, G, some [nn, nn], some [.int .i64 0], some [nn, nn]]) := by
  refine call2 rfl rfl Tryz.func89 rfl rfl rfl ?_
  have hP := fun cfg => parM (d + 8) m mo t cfg A B C D E [F, G]
  have hY := fun cfg => typM (d + 4) m mo t cfg A B C D E [F, G]
  have hA := fun cfg => accM (d + 3) (by omega) m mo hmo t ht cfg A B C D E [F, G]
  have hB : ∀ cfg h, callM md (K pM (d + 9)) cfg 39 [nn, .int .i64 0] h = some (.tup [.agg [nn, nn], .int .i64 0], h) := fun cfg h => by
    have := plnP (d + 6) (by omega) m mo t ht hs cfg h
    rw [h0] at this
    exact this
  have hR := fun A B C D E F G I => rpcZ d m mo t A B C D E F G I
  rw [h0, show rl [] = nn from rfl] at hA
  simp (disch := omega) [(job0_sl m mo t).1, (job0_sl m mo t).2, hP, hY, hA, hB, hR, rnZ, wrap64]
set_option maxRecDepth 100000 in
set_option maxHeartbeats 8000000 in
theorem wri1 (d : Nat) (hd : d + 10 ≤ 60) (m : Bool) (mo : Int) (hmo : 1 ≤ mo ∧ mo ≤ 8) (t : List Int) (ht : t.length ≤ 100) (hs : t.all scal = true) (T : List Int) (h0 : T ≠ []) (hT : takT (cL m mo) t = T) (A B C D E F G : Option (List V)) :
    callM md (K pM (d + 10)) ⟨0, [], 0⟩ 89 [.ptr 5 0] [A, B, C, D, E, some (job0 m mo t), F, G] =
      some (.int .i64 0, [A, B, C, D, E, some (job1 m mo t T), F, G, some (bufC T), some [.int .i64 0], some (bufC T), some (edtC T), some (bufC T), some (selC T.length), some (stpC T), some (his1 T), some (edtC T), some (edtC T), some (edtC T)]) := by
  have hsT : T.all scal = true := by rw [← hT]; unfold takT; exact scal_sp hs _
  have hlT : T.length ≤ t.length := by rw [← hT]; unfold takT; simp; omega
  have hTx : TxT T := ⟨by omega, h0, hsT⟩
  have hP := fun cfg => parM (d + 8) m mo t cfg A B C D E [F, G]
  have hY := fun cfg => typM (d + 4) m mo t cfg A B C D E [F, G]
  have hA := fun cfg => accM (d + 3) (by omega) m mo hmo t ht cfg A B C D E [F, G]
  have hB : ∀ cfg h, callM md (K pM (d + 9)) cfg 39 [rl T, .int .i64 0] h = some (.tup [.agg (bufC T), .int .i64 0], h) := fun cfg h => by
    have := plnP (d + 6) (by omega) m mo t ht hs cfg h
    rw [hT] at this
    rw [this]
    simp [rnZ, h0]
  have hR := fun A B C D E F G I => rpcM d (by omega) hTx m mo t A B C D E F G I
  rw [hT] at hA
  clear hT
  refine call2 rfl rfl Tryz.func89 rfl rfl rfl ?_
  simp (disch := omega) [(job0_sl m mo t).1, (job0_sl m mo t).2, hP, hY, hA, hB, hR, wrap64]
end Bi
end Go.Ab
namespace Go.Ab
open Go.Proofs
namespace Bi
attribute [local congr] wGq_congr
theorem fntV0 : val7S ⟨16, 12, 4, 0, 16, [], [], []⟩ = 0 := by
  have h1 : callM md (K pT 40) ⟨0, [], 0⟩ 28 [.agg (fntC ⟨16, 12, 4, 0, 16, [], [], []⟩)] [] = some (.int .i64 0, []) := by kernel_rfl
  have h2 := valFA (prim := pT) 35 pT_none ⟨16, 12, 4, 0, 16, [], [], []⟩ ⟨0, [], 0⟩ []
  rw [h1] at h2
  simpa using h2.symm
theorem fntV1 : val7S ⟨16, 12, 4, 0, 20, [], [], []⟩ = 0 := by
  have h1 : callM md (K pT 40) ⟨0, [], 0⟩ 28 [.agg (fntC ⟨16, 12, 4, 0, 20, [], [], []⟩)] [] = some (.int .i64 0, []) := by kernel_rfl
  have h2 := valFA (prim := pT) 35 pT_none ⟨16, 12, 4, 0, 20, [], [], []⟩ ⟨0, [], 0⟩ []
  rw [h1] at h2
  simpa using h2.symm
theorem val0 (m : Bool) (mo : Int) (hmo : 1 ≤ mo ∧ mo ≤ 8) : val28 (cL m mo) fs0 = 0 := by
  have h1 : rngCf (cL m mo) fs0.length = true := by
    simp [rngCf, cL, fs0]
    omega
  have h2 : fstE fs0 = 0 := fstE_ok fs0 fun f hf => by
    simp [fs0] at hf
    rcases hf with rfl | rfl
    · exact fntV0
    · exact fntV1
  unfold val28
  rw [if_neg (by decide : ¬ 8 < fs0.length), if_neg (by rw [h1]; simp), h2]
def cfL (m : Bool) (mo : Int) : List V := [.bool m, .bool false, .int .i64 mo, .int .i64 0, .int .i64 1, .int .i64 10, .int .i64 1000, .int .i64 0, .int .i64 0]
theorem valC (d : Nat) (hd : d + 6 ≤ 60) (m : Bool) (mo : Int) (hmo : 1 ≤ mo ∧ mo ≤ 8) (cfg : Cfg) (h : Heap) :
    callM md (K pM (d + 6)) cfg 6 [.agg (cfL m mo), fntsV] h = some (.int .i64 0, h) := by
  have := toM hd (vT_ok (prim := pT) d pT_none (cL m mo) fs0 (by simp [FsOK, fs0]) cfg h)
  rw [val0 m mo hmo] at this
  exact this
theorem spnM (d : Nat) (m : Bool) (mo : Int) (cfg : Cfg) (h : Heap) :
    callM md (K pM (d + 4)) cfg 62 [.agg [nn, nn], .agg (cfL m mo)] h = some (.lst [[.int .i64 0, .int .i64 0, .int .i64 0, .int .i64 10]], h) := by kernel_rfl
theorem chk0 (d : Nat) (hd : d + 7 ≤ 60) (m : Bool) (mo : Int) (hmo : 1 ≤ mo ∧ mo ≤ 8) (cfg : Cfg) (h : Heap) :
    callM md (K pM (d + 7)) cfg 8 [.agg (eL nn nn 0 his0), .agg (cfL m mo)] h = some (.int .i64 0, h) := by
  have h1 := toM (d := d + 7) (by omega) (chT_ok (prim := pT) d pT_none (cL m mo) ⟨[], [], 0, 0, false, false, 0, 0, [], [], 0, 0, [], [], [], false, 0, -1, -1⟩ ⟨by simp, by simp, by simp, by simp⟩ cfg h)
  have h2 : chkB ⟨[], [], 0, 0, false, false, 0, 0, [], [], 0, 0, [], [], [], false, 0, -1, -1⟩ (cL m mo) = false := by
    have : valB [] [] = 0 := by simp [valB, badR, sumL, alikeL]
    obtain ⟨a1, a2⟩ := hmo
    have b1 : ¬ mo < 0 := by omega
    simp [chkB, this, stpS, cL, b1]
  rw [h2] at h1
  exact h1
set_option maxRecDepth 100000 in
set_option maxHeartbeats 8000000 in
theorem layoutM (d : Nat) (hd : d + 7 ≤ 60) (m : Bool) (mo : Int) (hmo : 1 ≤ mo ∧ mo ≤ 8) (cfg : Cfg) (h : Heap) :
    callM md (K pM (d + 7)) cfg 24 [.agg (eL nn nn 0 his0), .agg (cfL m mo), fntsV] h = some (.tup [.agg par0, .lst LL, .int .i64 0], h) := by
  refine call0 rfl rfl Tryz.func24 rfl rfl rfl (by simp [eL, cfL, his0, fntsV]) ?_
  have hV := fun cfg h => valC d (by omega) m mo hmo cfg h
  have hB := fun cfg h => valM0 (d + 3) cfg h
  have hC := fun cfg h => clnM0 (d + 5) cfg h
  have hS := fun cfg h => spnM (d + 2) m mo cfg h
  have hL := fun cfg h => linesM (d + 5) cfg h
  have hmC : md 61 = 2 := rfl
  have hmS : md 62 = 0 := rfl
  rw [show V.lst (fs0.map fntC) = fntsV from rfl] at hL
  simp only [cfL] at hV hS
  simp only [par0] at hL
  simp [eL, cfL, his0, hV, hB]
  refine wC_draw 16 (by kernel_rfl) ?_
  simp [hmC, hmS, hC, hS, hL]
  rfl
def jobB (m : Bool) (mo : Int) (t : List Int) : List V := ecfC (cL m mo) ++ fntsV :: (evC t ++ (eL nn nn 0 his0 ++ [.nils, .nils, .int .i64 0, .int .i64 0, .int .i64 0, .nils, .nils, .nils, .nils]))
set_option maxRecDepth 100000 in
set_option maxHeartbeats 8000000 in
theorem layM (d : Nat) (hd : d + 8 ≤ 60) (m : Bool) (mo : Int) (hmo : 1 ≤ mo ∧ mo ≤ 8) (t : List Int) (A B C D E : Option (List V)) :
    callM md (K pM (d + 8)) ⟨0, [], 0⟩ 51 [.ptr 5 0] [A, B, C, D, E, some (jobB m mo t)] = some (.int .i64 0, [A, B, C, D, E, some (job0 m mo t), some par0]) := by
  refine call2 rfl rfl Tryz.func51 rfl rfl rfl ?_
  have hL := fun cfg h => layoutM d (by omega) m mo hmo cfg h
  have hmL : md 24 = 0 := rfl
  simp only [jobB, job0, jobC, eL, evC, par0, his0, cL, cfL, ecfC, List.cons_append, List.nil_append] at hL ⊢
  simp
  refine wC_draw 18 (by kernel_rfl) ?_
  simp [hmL, hL]
  exact ⟨rfl, rfl⟩
theorem refM (d : Nat) (hd : d + 8 ≤ 60) (m : Bool) (mo : Int) (hmo : 1 ≤ mo ∧ mo ≤ 8) (t : List Int) (cfg : Cfg) (h : Heap) :
    callM md (K pM (d + 8)) cfg 49 [.agg (eL nn nn 0 his0), .agg (cfL m mo), fntsV, .agg (evC t)] h = some (.int .i64 0, h) := by
  refine call0 rfl rfl Tryz.func49 rfl rfl rfl (by simp [eL, cfL, his0, fntsV, evC]) ?_
  have hV := fun cfg h => valC (d + 1) (by omega) m mo hmo cfg h
  have hC := fun cfg h => chk0 d (by omega) m mo hmo cfg h
  have hB : ∀ cfg h x l r, callM md (K pM (d + 7)) cfg 27 [.int .i64 x, .int .i64 l, .int .i64 r] h = some (.bool (decide (l ≤ x) && decide (x ≤ r)), h) := fun cfg h x l r => toM (by omega) (btw_ok (prim := pT) (d + 6) pT_none cfg h x l r)
  simp only [cfL, eL, his0, evC, List.cons_append, List.nil_append] at hV hC ⊢
  simp [hV, hC, hB]
theorem clo0 (d : Nat) (cfg : Cfg) (h : Heap) : callM md (K pM (d + 5)) cfg 50 [.agg (eL nn nn 0 his0)] h = some (.agg (eL nn nn 0 his0), h) := by kernel_rfl
section
variable {P : Program} {md' : FuncId → Nat} {call : Callf} {cfg : Cfg} {fr : List V} {h : Heap}
theorem opEv_mkm {t : TypeId} : opEv P md' call cfg fr h (.makeMap t none) = makeMapV P h t := rfl
theorem opEv_ins {t : TypeId} {m k x : Operand} : opEv P md' call cfg fr h (.insert t m k x) = match ev fr m, ev fr k, ev fr x with
    | some a, some b, some c => match mapUpdateV P cfg h t a b c with
      | some h' => some (.no, h')
      | none => none
    | _, _, _ => none := rfl
theorem opEv_lku {t : TypeId} {m k : Operand} {ok : Bool} : opEv P md' call cfg fr h (.lookup t m k ok) = match ev fr m, ev fr k with
    | some a, some b => (lookupV P h t a b ok).map (·, h)
    | _, _ => none := rfl
end
theorem mkm7 (A B C D E J F : Option (List V)) : makeMapV Tryz.prog [A, B, C, D, E, J, F] 142 = some (.mref 7, [A, B, C, D, E, J, F, some [.mq []]]) := by kernel_rfl
theorem insF (A B C D E J F : Option (List V)) (l : List (List V)) (k : Int) (f : FuncId) (hf : findI .i64 k l = some none) :
    mapUpdateV Tryz.prog ⟨0, [], 0⟩ [A, B, C, D, E, J, F, some [.mq l]] 142 (.mref 7) (.int .i64 k) (.func (.func f) [] []) = some [A, B, C, D, E, J, F, some [.mq (l ++ [[.int .i64 k, .func (.func f) [] []]])]] := by
  have h1 : mapKinds Tryz.prog 142 = none := by kernel_rfl
  have h2 : (mapTyI Tryz.prog 142).map (fun x => (x.1, x.2.1)) = some (3, .i64) := by kernel_rfl
  obtain ⟨⟨a, b, z⟩, h3, h4⟩ := Option.map_eq_some_iff.1 h2
  cases h4
  simp [mapUpdateV, mapUpdateI, h1, h3, mapSOf, hf, flatV, flatL, Cfg.wr, blockOf]
set_option maxRecDepth 100000 in
set_option maxHeartbeats 8000000 in
theorem carM (d : Nat) (m : Bool) (mo : Int) (t : List Int) (A B C D E F : Option (List V)) (Q : Option (List V) → Heap)
    (hW : ∀ G, callM md (K pM (d + 10)) ⟨0, [], 0⟩ 89 [.ptr 5 0] [A, B, C, D, E, some (job0 m mo t), F, G] = some (.int .i64 0, Q G)) :
    ∃ r h2, callM md (K pM (d + 11)) ⟨0, [], 0⟩ 55 [.ptr 5 0] [A, B, C, D, E, some (job0 m mo t), F] = some (r, h2) ∧ (r = .int .i64 0 ∧ ∃ G, h2 = Q G) := by
  refine call2x rfl rfl Tryz.func55 rfl rfl rfl ?_
  have hS : slot (job0 m mo t) 10 = some (.int .i64 1) := rfl
  simp [(job0_sl m mo t).1, hS, opEv_mkm, mkm7, opEv_ins, opEv_lku]
  iterate 19
    rw [insF]
    rotate_left
    · rfl
    simp [opEv_ins, opEv_lku]
  generalize hg : [[V.int IntKind.i64 1, V.func (Fn.func 89) [] []], _, _, _, _, _, _, _, _, _, _, _, _, _, _, _, _, _, _] = l
  have hL : lookupV Tryz.prog [A, B, C, D, E, some (job0 m mo t), F, some [.mq l]] 142 (.mref 7) (.int .i64 1) false = some (.func (.func 89) [] []) := by
    subst hg
    kernel_rfl
  simp [(job0_sl m mo t).1, hS, opEv_lku]
  rw [hL]
  simp [hW]
  exact ⟨_, rfl⟩
end Bi
end Go.Ab
namespace Go.Ab
open Go.Proofs
namespace Bi
attribute [local congr] wGq_congr
theorem wrt1 (d : Nat) (cfg : Cfg) (h : Heap) : callM md (K pM (d + 2)) cfg 52 [.int .i64 1] h = some (.bool true, h) := by kernel_rfl
def runV (T : List Int) : V := if T = [] then .tup [.agg (eL nn nn 0 his0), .agg [nn, nn, nn], .int .i64 0] else .tup [.agg (eL (rl T) (.lst [[.int .i64 T.length, .int .i64 0]]) T.length (his1 T)), .agg [.lst [edtC T], nn, nn], .int .i64 0]
set_option maxRecDepth 100000 in
set_option maxHeartbeats 8000000 in
theorem runM (d : Nat) (hd : d + 12 ≤ 60) (m : Bool) (mo : Int) (hmo : 1 ≤ mo ∧ mo ≤ 8) (t : List Int) (ht : t.length ≤ 100) (hs : t.all scal = true) (cfg : Cfg) (h : Heap) :
    callM md (K pM (d + 12)) cfg 18 [.agg (eL nn nn 0 his0), .agg (cfL m mo), fntsV, .agg (evC t)] h = some (runV (takT (cL m mo) t), h) := by
  refine call0 rfl rfl Tryz.func18 rfl rfl rfl (by simp [eL, cfL, his0, fntsV, evC]) ?_
  have hR := fun cfg h => refM (d + 3) (by omega) m mo hmo t cfg h
  have hC := fun cfg h => clo0 (d + 6) cfg h
  have hL := fun A B C D E => layM (d + 3) (by omega) m mo hmo t A B C D E
  have hW := fun cfg h => wrt1 (d + 9) cfg h
  have hP : ∀ cfg h, callM md (K pM (d + 11)) cfg 39 [rl t, .int .i64 0] h = some (.tup [.agg [rl t, ml (rnZ t)], .int .i64 0], h) := fun cfg h => by
    have := toM (by omega) (pln_ok (prim := pT) (d + 8) pT_none t (by omega) cfg h)
    simp only [plnS, hs, if_true] at this
    exact this
  have hmC : md 50 = 0 := rfl
  have hcar : ∀ A B C D E F, ∃ h2, callM md (K pM (d + 11)) ⟨0, [], 0⟩ 55 [.ptr 5 0] [A, B, C, D, E, some (job0 m mo t), F] = some (.int .i64 0, h2) ∧
      (takT (cL m mo) t = [] → ∃ G, h2 = [A, B, C, D, E, some (job0 m mo t), F, G, some [nn, nn], some [.int .i64 0], some [nn, nn]]) ∧
      (∀ T, takT (cL m mo) t = T → T ≠ [] → ∃ G, h2 = [A, B, C, D, E, some (job1 m mo t T), F, G, some (bufC T), some [.int .i64 0], some (bufC T), some (edtC T), some (bufC T), some (selC T.length), some (stpC T), some (his1 T), some (edtC T), some (edtC T), some (edtC T)]) := fun A B C D E F => by
    by_cases h0 : takT (cL m mo) t = []
    · obtain ⟨r, h2, h3, rfl, G, rfl⟩ := carM d m mo t A B C D E F _ (fun G => wriZ d (by omega) m mo hmo t ht hs h0 A B C D E F G)
      exact ⟨_, h3, fun _ => ⟨G, rfl⟩, fun T e n => absurd (e.symm.trans h0) n⟩
    · obtain ⟨r, h2, h3, rfl, G, rfl⟩ := carM d m mo t A B C D E F _ (fun G => wri1 d (by omega) m mo hmo t ht hs _ h0 rfl A B C D E F G)
      exact ⟨_, h3, fun e => absurd e h0, fun T e _ => by subst e; exact ⟨G, rfl⟩⟩
  obtain ⟨h2, hc, q1, q2⟩ := hcar (some (eL nn nn 0 his0)) (some (cfL m mo)) (some (evC t)) (some [.nils, .nils, .int .i64 0, .int .i64 0, .bool false, .bool false, .int .i64 0, .int .i64 0, .nils, .nils, .int .i64 0, .int .i64 0, .nils, .nils, .nils, .bool false, .int .i64 0, .int .i64 0, .int .i64 0]) (some [.nils, .nils, .nils]) (some par0)
  clear hcar
  generalize takT (cL m mo) t = T at *
  simp only [cfL, eL, his0, evC, jobB, cL, ecfC, List.cons_append, List.nil_append] at hR hC hL hc ⊢
  simp [hR]
  refine wC_draw 5 (by kernel_rfl) ?_
  have hfc : cellsOf fntsV = some [fntsV] := rfl
  have hfl : fntsV.leaf = true := rfl
  have hfr : fntsV.rf = true := rfl
  have j30 : slot (job0 m mo t) 30 = some (.bool false) := rfl
  simp [hmC, hC, hfc, hfl, hfr, hL, hW, hP, (job0_sl m mo t).1, j30]
  simp [hc]
  by_cases h0 : T = []
  · subst h0
    obtain ⟨G, rfl⟩ := q1 rfl
    refine wC_draw 9 (by kernel_rfl) ?_
    simp only [job0, jobC, eL, evC, par0, his0, cL, ecfC, List.cons_append, List.nil_append]
    simp [Cfg.wr]
    rw [runV, if_pos rfl]
    rfl
  obtain ⟨G, rfl⟩ := q2 T rfl h0
  refine wC_draw 9 (by kernel_rfl) ?_
  simp only [job1, jobC, eL, evC, par0, his1, cL, ecfC, List.cons_append, List.nil_append]
  simp [Cfg.wr]
  have f1 : ∀ a b c e f g k l m n o p q r s u v w : Option (List V), frz [a, b, c, e, f, g, k, l, m, n, o, p, q, r, s, u, v, w, some (edtC T)] 0 4 (.sl 18 0 1 1 4) = some (.lst [edtC T]) := fun a b c e f g k l m n o p q r s u v w => by kernel_rfl
  simp [f1]
  rw [runV, if_neg h0]
  rfl
end Bi
end Go.Ab
