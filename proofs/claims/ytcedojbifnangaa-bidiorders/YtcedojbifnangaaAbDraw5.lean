/- Regions that draw their order: what each of the first operations does. -/
import Derived.Test.YtcedojbifnangaaAbDraw4
namespace Go.Ab

section
variable {P : Program} {ops : Array Oper}

theorem opV_head_heap {cfg : Cfg} {fr : List V} {h h' : Heap} {op : Op} {v : V} (hop : headOp P op = true) (hv : opV P cfg fr h op = some (v, h')) : h' = h ∨ ∃ n, h' = h ++ [n] := by
  cases op <;> simp only [headOp, Bool.false_eq_true] at hop
  case call c =>
    obtain ⟨callee, args, tys⟩ := c
    cases callee with
    | value f => simp at hop
    | invoke r n => simp at hop
    | builtin b =>
      simp only [opV] at hv
      split at hv
      · cases hv
      · split at hv
        · exact .inl (map_pair hv).2
        · simp at hop
        · exact .inl (map_pair hv).2
        · exact .inl (map_pair hv).2
        · simp at hop
        · cases hv
  case convert s d y =>
    simp only [opV] at hv
    split at hv
    · split at hop
      · rename_i k hd
        unfold convV at hv
        rw [hd] at hv
        split at hv
        · rename_i h1 h2; cases h2
        · split at hv
          · cases hv; exact .inl rfl
          · cases hv
        · rename_i h1 h2; cases h2
        · rename_i h1 h2; cases h2
        · cases hv
      · cases hop
    · cases hv
  case slice t y l hh mx =>
    cases mx with
    | none =>
      simp only [opV] at hv
      split at hv
      · exact .inl (map_pair hv).2
      · cases hv
    | some o => simp [opV] at hv
  all_goals
    simp only [opV] at hv
    repeat' split at hv
    all_goals first
      | (cases hv; done)
      | exact .inl (map_pair hv).2
      | (cases hv; first | exact .inl rfl | exact .inr ⟨_, rfl⟩)
      | (unfold buildSliceV at hv; repeat' split at hv
         all_goals first | (cases hv; done) | (cases hv; exact .inr ⟨_, rfl⟩))
      | (unfold makeSliceV at hv; repeat' split at hv
         all_goals first | (cases hv; done) | (cases hv; exact .inr ⟨_, rfl⟩))

theorem callM_len {md : FuncId → Nat} {call : Callf} {c : Cfg} {g : FuncId} {args : List V} {h h' : Heap} {v : V} (hm : md g = 0 ∨ md g = 1 ∨ md g = 3) (hv : callM md call c g args h = some (v, h')) : h'.length ≤ h.length := by
  unfold callM at hv
  rcases hm with hm | hm | hm <;> rw [hm] at hv <;> simp only at hv <;> repeat' split at hv
  all_goals first
    | (cases hv; done)
    | (cases hv; exact Nat.le_refl _)
    | (cases hv; simp; omega)

theorem opV_store_len {c : Cfg} {fr : List V} {h h' : Heap} {t : TypeId} {p y : Operand} {v : V} (hv : opV P c fr h (.store t p y) = some (v, h')) : h'.length = h.length := by
  simp only [opV] at hv
  split at hv
  · split at hv
    · rename_i h1 hs
      cases hv
      unfold storeV at hs
      repeat' split at hs
      all_goals first
        | (cases hs; done)
        | (unfold storeCellsV at hs; repeat' split at hs
           all_goals first | (cases hs; done) | (cases hs; simp))
    · cases hv
  · cases hv

/-- What one of the first operations does. -/
def Kind (P : Program) (md : FuncId → Nat) (call : Callf) (cfg : Cfg) (ops : Array Oper) (o : Oper) (fr : List V) (h : Heap) (v : V) (h' : Heap) (x : Option Nat) : Prop :=
  (wantd ops fr o = some false ∧ v = .no ∧ h' = h) ∨
  (wantd ops fr o = some true ∧ isCall o = false ∧ headOp P o.op = true ∧ opV P cfg fr h o.op = some (v, h') ∧ ∀ b, x = some b → readsOf fr o.op ≠ some b) ∨
  (wantd ops fr o = some true ∧ isCall o = true ∧ h.length ≤ h'.length ∧ ∃ c : Cfg, c.thr = h.length ∧ opEv P md call c fr h o.op = some (v, h') ∧ (∀ b, b < h.length → x ≠ some b → c.wr b = false))

theorem head_info (hN : Named P) {md : FuncId → Nat} {call : Callf} (hcall : CallOK P call) {cfg : Cfg} {o : Oper} {fr : List V} {h h' : Heap} {x x' : Option Nat} {ld ld' : List Nat} {v : V}
    (hs : headStep P md call cfg ops o fr h x ld = some (v, h', x', ld')) :
    (∀ b, x = some b → x' = some b) ∧ (∀ b, x' = some b → x = some b ∨ cfg.wr b = true) ∧ (∀ b ∈ ld, b ∈ ld') ∧
      ∀ y, (∀ b, x' = some b → y = some b) → (∀ b, y = some b → ¬ b ∈ ld') → Kind P md call cfg ops o fr h v h' y := by
  unfold headStep at hs
  split at hs
  · cases hs
  · rename_i hw
    simp only [Option.some.injEq, Prod.mk.injEq] at hs
    obtain ⟨rfl, rfl, rfl, rfl⟩ := hs
    exact ⟨fun b h => h, fun b h => .inl h, fun b h => h, fun y _ _ => .inl ⟨hw, rfl, rfl⟩⟩
  · rename_i hw
    split at hs
    · rename_i f args tys hop
      have hic : isCall o = true := by simp [isCall, hop]
      split at hs
      · rename_i g first captured vs hf hvs
        split at hs
        · rename_i hm
          split at hs
          · rename_i v1 h1 hc
            simp only [Option.some.injEq, Prod.mk.injEq] at hs
            obtain ⟨rfl, rfl, rfl, rfl⟩ := hs
            obtain ⟨hhs, _⟩ := callM_ok hcall hc
            refine ⟨fun b h => h, fun b h => .inl h, fun b h => h, fun y _ _ => .inr (.inr ⟨hw, hic, hhs.len, ⟨h.length, none, h.length⟩, rfl, ?_, fun b hb _ => ?_⟩)⟩
            · simp only [opEv, hop, hf, hvs]; exact hc
            · simp [Cfg.wr]; omega
          · cases hs
        · rename_i hm
          split at hs
          · rename_i v1 h1 hc
            simp only [Option.some.injEq, Prod.mk.injEq] at hs
            obtain ⟨rfl, rfl, rfl, rfl⟩ := hs
            obtain ⟨hhs, _⟩ := callM_ok hcall hc
            refine ⟨fun b h => h, fun b h => .inl h, fun b h => h, fun y _ _ => .inr (.inr ⟨hw, hic, hhs.len, ⟨h.length, none, h.length⟩, rfl, ?_, fun b hb _ => ?_⟩)⟩
            · simp only [opEv, hop, hf, hvs]; exact hc
            · simp [Cfg.wr]; omega
          · cases hs
        · rename_i hm
          split at hs
          · rename_i b off rest has
            split at hs
            · rename_i hcond
              simp only [Bool.and_eq_true] at hcond
              split at hs
              · rename_i v1 h1 hc
                simp only [Option.some.injEq, Prod.mk.injEq] at hs
                obtain ⟨rfl, rfl, rfl, rfl⟩ := hs
                rw [has] at hc
                obtain ⟨hhs, _⟩ := callM_ok hcall hc
                refine ⟨fun c hc' => ?_, fun c hc' => ?_, fun b h => h, fun y hy _ => .inr (.inr ⟨hw, hic, hhs.len, ⟨h.length, some b, h.length⟩, rfl, ?_, fun c hcl hcy => ?_⟩)⟩
                · subst hc'
                  have := hcond.2
                  simp only [xOK, beq_iff_eq] at this
                  rw [this]
                · cases hc'; exact .inr hcond.1
                · simp only [opEv, hop, hf, hvs, has]; exact hc
                · have := hy b rfl
                  subst this
                  have hne : b ≠ c := fun e => hcy (by rw [e])
                  simp [Cfg.wr, hne]; omega
              · cases hs
            · cases hs
          · cases hs
        · rename_i hm
          split at hs
          · rename_i v1 h1 hc
            simp only [Option.some.injEq, Prod.mk.injEq] at hs
            obtain ⟨rfl, rfl, rfl, rfl⟩ := hs
            obtain ⟨hhs, _⟩ := callM_ok hcall hc
            refine ⟨fun b h => h, fun b h => .inl h, fun b h => h, fun y _ _ => .inr (.inr ⟨hw, hic, hhs.len, ⟨h.length, none, h.length⟩, rfl, ?_, fun b hb _ => ?_⟩)⟩
            · simp only [opEv, hop, hf, hvs]; exact hc
            · simp [Cfg.wr]; omega
          · cases hs
        · cases hs
      · cases hs
    · rename_i t p y hop
      have hic : isCall o = true := by simp [isCall, hop]
      split at hs
      · rename_i b off hp
        split at hs
        · rename_i hcond
          simp only [Bool.and_eq_true] at hcond
          split at hs
          · rename_i v1 h1 hv
            simp only [Option.some.injEq, Prod.mk.injEq] at hs
            obtain ⟨rfl, rfl, rfl, rfl⟩ := hs
            refine ⟨fun c hc' => ?_, fun c hc' => ?_, fun b h => h, fun y' hy _ => .inr (.inr ⟨hw, hic, by rw [opV_store_len hv]; exact Nat.le_refl _, ⟨h.length, some b, h.length⟩, rfl, ?_, fun c hcl hcy => ?_⟩)⟩
            · subst hc'
              have := hcond.2
              simp only [xOK, beq_iff_eq] at this
              rw [this]
            · cases hc'; exact .inr hcond.1
            · rw [hop]; exact hv
            · have := hy b rfl
              subst this
              have hne : b ≠ c := fun e => hcy (by rw [e])
              simp [Cfg.wr, hne]; omega
          · cases hs
        · cases hs
      · cases hs
    · rename_i hnc hns
      have hic : isCall o = false := by
        unfold isCall
        split
        · rename_i f args tys hop; exact absurd hop (hnc f args tys)
        · rename_i t p y hop; exact absurd hop (hns t p y)
        · rfl
      split at hs
      · rename_i hh
        split at hs
        · rename_i v1 h1 hv
          simp only [Option.some.injEq, Prod.mk.injEq] at hs
          obtain ⟨rfl, rfl, rfl, rfl⟩ := hs
          refine ⟨fun b h => h, fun b h => .inl h, fun b h => ?_, fun y hy hld => .inr (.inl ⟨hw, hic, hh, hv, fun b hb hr => ?_⟩)⟩
          · split
            · exact List.mem_cons_of_mem _ h
            · exact h
          · refine hld b hb ?_
            rw [hr]
            exact List.mem_cons_self
        · cases hs
      · cases hs

/-- The trace of the first N operations. -/
structure Tr (P : Program) (md : FuncId → Nat) (call : Callf) (cfg : Cfg) (ops : Array Oper) (N : Nat) (x : Option Nat) (F : Nat → List V) (H : Nat → Heap) (v : Nat → V) : Prop where
  xlt : ∀ b, x = some b → b < (H 0).length
  xwr : ∀ b, x = some b → cfg.wr b = true
  step : ∀ i o, i < N → ops[i]? = some o → F (i + 1) = put (F i) o.dst (v i) ∧ Kind P md call cfg ops o (F i) (H i) (v i) (H (i + 1)) x

theorem upTo {p : Nat → Prop} {N : Nat} (hs : ∀ i, i < N → p i → p (i + 1)) {i : Nat} (hi : p i) : ∀ (j : Nat), i ≤ j → j ≤ N → p j := by
  intro j hij
  induction hij with
  | refl => intro _; exact hi
  | step _ ih => intro hj; exact hs _ (by omega) (ih (by omega))

theorem tr_of_run (hN : Named P) {md : FuncId → Nat} {call : Callf} (hcall : CallOK P call) {cfg : Cfg} {N : Nat} (hle : N ≤ ops.size) {fr fr1 : List V} {h h1 : Heap} {x : Option Nat} {ld : List Nat}
    (hr : headRun P md call cfg ops (ops.toList.take N) fr h none [] = some (fr1, h1, x, ld)) (hx : ldOK h.length ld x = true) :
    ∃ F H v, F 0 = fr ∧ H 0 = h ∧ F N = fr1 ∧ H N = h1 ∧ Tr P md call cfg ops N x F H v := by
  obtain ⟨F, H, X, D, v, e1, e2, e3, e4, e5, e6, e7, e8, hst⟩ := head_trace _ _ _ _ _ hr
  have hlen : (ops.toList.take N).length = N := by simp; omega
  rw [hlen] at e5 e6 e7 e8
  have hget : ∀ i o, i < N → ops[i]? = some o → (ops.toList.take N)[i]? = some o := fun i o hi ho => by rw [List.getElem?_take, if_pos hi]; simpa using ho
  have info := fun i o (hi : i < N) (ho : ops[i]? = some o) => head_info hN hcall (hst i o (hget i o hi ho)).1
  -- x and ld only grow
  have hXup : ∀ i, i ≤ N → ∀ b, X i = some b → x = some b := by
    intro i hi b hb
    rw [← e7]
    exact upTo (p := fun j => X j = some b) (N := N) (fun j hj hjb => (info j ops[j] hj (Array.getElem?_eq_getElem (by omega))).1 b hjb) hb N hi (Nat.le_refl _)
  have hDup : ∀ i, i ≤ N → ∀ b ∈ D i, b ∈ ld := by
    intro i hi b hb
    rw [← e8]
    exact upTo (p := fun j => b ∈ D j) (N := N) (fun j hj hjb => (info j ops[j] hj (Array.getElem?_eq_getElem (by omega))).2.2.1 b hjb) hb N hi (Nat.le_refl _)
  refine ⟨F, H, v, e1, e2, e5, e6, fun b hb => ?_, fun b hb => ?_, fun i o hi ho => ?_⟩
  · subst hb
    rw [e2]
    simp only [ldOK, Bool.and_eq_true, decide_eq_true_eq] at hx
    exact hx.2
  · have key : ∀ i, i ≤ N → ∀ b, X i = some b → cfg.wr b = true := by
      intro i
      induction i with
      | zero => intro _ b hb; rw [e3] at hb; cases hb
      | succ i ih =>
        intro hi b hb
        rcases (info i ops[i] (by omega) (Array.getElem?_eq_getElem (by omega))).2.1 b hb with h1 | h1
        · exact ih (by omega) b h1
        · exact h1
    exact key N (Nat.le_refl _) b (by rw [e7]; exact hb)
  · refine ⟨(hst i o (hget i o hi ho)).2, (info i o hi ho).2.2.2 x (fun b hb => hXup (i + 1) (by omega) b hb) fun b hb hmem => ?_⟩
    subst hb
    simp only [ldOK, Bool.and_eq_true, Bool.not_eq_true', decide_eq_true_eq] at hx
    have := hDup (i + 1) (by omega) b hmem
    have h2 := hx.1
    simp at h2
    exact h2 this
end
end Go.Ab
