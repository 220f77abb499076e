/- Several texts of this proof in one. -/
import Derived.Test.YteogajcegmejgaaGreatAbDraw4
namespace Go.Ab
section
variable {P : Program} {ops : Array Oper}
theorem opV_head_heap {cfg : Cfg} {fr : List V} {h h' : Heap} {op : Op} {v : V} (hop : headOp P op = true) (hv : opV P cfg fr h op = some (v, h')) : h' = h ∨ ∃ n, h' = h ++ [n] := by
  cases op <;> simp only [headOp, Bool.false_eq_true] at hop
  case call c =>
    obtain ⟨callee, args, tys⟩ := c
    cases callee with
    | value f => simp at hop
    | invoke r n => simp at hop
    | builtin b =>
      simp only [opV] at hv
      split at hv
      · cases hv
      · split at hv
        · exact .inl (map_pair hv).2
        · simp at hop
        · exact .inl (map_pair hv).2
        · exact .inl (map_pair hv).2
        · simp at hop
        · cases hv
  case convert s d y =>
    simp only [opV] at hv
    split at hv
    · split at hop
      · rename_i k hd
        unfold convV at hv
        rw [hd] at hv
        split at hv
        · rename_i h1 h2; cases h2
        · split at hv
          · cases hv; exact .inl rfl
          · cases hv
        · rename_i h1 h2; cases h2
        · rename_i h1 h2; cases h2
        · cases hv
      · cases hop
    · cases hv
  case slice t y l hh mx =>
    cases mx with
    | none =>
      simp only [opV] at hv
      split at hv
      · exact .inl (map_pair hv).2
      · cases hv
    | some o => simp [opV] at hv
  all_goals
    simp only [opV] at hv
    repeat' split at hv
    all_goals first
      | (cases hv; done)
      | exact .inl (map_pair hv).2
      | (cases hv; first | exact .inl rfl | exact .inr ⟨_, rfl⟩)
      | (unfold buildSliceV at hv; repeat' split at hv
         all_goals first | (cases hv; done) | (cases hv; exact .inr ⟨_, rfl⟩))
      | (unfold makeSliceV at hv; repeat' split at hv
         all_goals first | (cases hv; done) | (cases hv; exact .inr ⟨_, rfl⟩))
theorem opV_store_len {c : Cfg} {fr : List V} {h h' : Heap} {t : TypeId} {p y : Operand} {v : V} (hv : opV P c fr h (.store t p y) = some (v, h')) : h'.length = h.length := by
  simp only [opV] at hv
  split at hv
  · split at hv
    · rename_i h1 hs
      cases hv
      unfold storeV at hs
      repeat' split at hs
      all_goals first
        | (cases hs; done)
        | (unfold storeCellsV at hs; repeat' split at hs
           all_goals first | (cases hs; done) | (cases hs; simp))
    · cases hv
  · cases hv
def Kind (P : Program) (md : FuncId → Nat) (call : Callf) (cfg : Cfg) (ops : Array Oper) (o : Oper) (fr : List V) (h : Heap) (v : V) (h' : Heap) (x : Option Nat) : Prop :=
  (wantd ops fr o = some false ∧ v = .no ∧ h' = h) ∨
  (wantd ops fr o = some true ∧ isCall o = false ∧ headOp P o.op = true ∧ opV P cfg fr h o.op = some (v, h') ∧ ∀ b, x = some b → readsOf fr o.op ≠ some b) ∨
  (wantd ops fr o = some true ∧ isCall o = true ∧ h.length ≤ h'.length ∧ ∃ c : Cfg, c.thr = h.length ∧ opEv P md call c fr h o.op = some (v, h') ∧ (∀ b, b < h.length → x ≠ some b → c.wr b = false))
theorem head_info (_hN : Named P) {md : FuncId → Nat} {call : Callf} (hcall : CallOK P call) {cfg : Cfg} {o : Oper} {fr : List V} {h h' : Heap} {x x' : Option Nat} {ld ld' : List Nat} {v : V}
    (hs : headStep P md call cfg ops o fr h x ld = some (v, h', x', ld')) :
    (∀ b, x = some b → x' = some b) ∧ (∀ b, x' = some b → x = some b ∨ cfg.wr b = true) ∧ (∀ b ∈ ld, b ∈ ld') ∧
      ∀ y, (∀ b, x' = some b → y = some b) → (∀ b, y = some b → ¬ b ∈ ld') → Kind P md call cfg ops o fr h v h' y := by
  unfold headStep at hs
  split at hs
  · cases hs
  · rename_i hw
    simp only [Option.some.injEq, Prod.mk.injEq] at hs
    obtain ⟨rfl, rfl, rfl, rfl⟩ := hs
    exact ⟨fun b h => h, fun b h => .inl h, fun b h => h, fun y _ _ => .inl ⟨hw, rfl, rfl⟩⟩
  · rename_i hw
    split at hs
    · rename_i f args tys hop
      have hic : isCall o = true := by simp [isCall, hop]
      split at hs
      · rename_i g first captured vs hf hvs
        split at hs
        · rename_i hm
          split at hs
          · rename_i v1 h1 hc
            simp only [Option.some.injEq, Prod.mk.injEq] at hs
            obtain ⟨rfl, rfl, rfl, rfl⟩ := hs
            obtain ⟨hhs, _⟩ := callM_ok hcall hc
            refine ⟨fun b h => h, fun b h => .inl h, fun b h => h, fun y _ _ => .inr (.inr ⟨hw, hic, hhs.len, ⟨h.length, none, h.length⟩, rfl, ?_, fun b hb _ => ?_⟩)⟩
            · simp only [opEv, hop, hf, hvs]; exact hc
            · simp [Cfg.wr]; omega
          · cases hs
        · rename_i hm
          split at hs
          · rename_i v1 h1 hc
            simp only [Option.some.injEq, Prod.mk.injEq] at hs
            obtain ⟨rfl, rfl, rfl, rfl⟩ := hs
            obtain ⟨hhs, _⟩ := callM_ok hcall hc
            refine ⟨fun b h => h, fun b h => .inl h, fun b h => h, fun y _ _ => .inr (.inr ⟨hw, hic, hhs.len, ⟨h.length, none, h.length⟩, rfl, ?_, fun b hb _ => ?_⟩)⟩
            · simp only [opEv, hop, hf, hvs]; exact hc
            · simp [Cfg.wr]; omega
          · cases hs
        · rename_i hm
          split at hs
          · rename_i b off rest has
            split at hs
            · rename_i hcond
              simp only [Bool.and_eq_true] at hcond
              split at hs
              · rename_i v1 h1 hc
                simp only [Option.some.injEq, Prod.mk.injEq] at hs
                obtain ⟨rfl, rfl, rfl, rfl⟩ := hs
                rw [has] at hc
                obtain ⟨hhs, _⟩ := callM_ok hcall hc
                refine ⟨fun c hc' => ?_, fun c hc' => ?_, fun b h => h, fun y hy _ => .inr (.inr ⟨hw, hic, hhs.len, ⟨h.length, some b, h.length⟩, rfl, ?_, fun c hcl hcy => ?_⟩)⟩
                · subst hc'
                  have := hcond.2
                  simp only [xOK, beq_iff_eq] at this
                  rw [this]
                · cases hc'; exact .inr hcond.1
                · simp only [opEv, hop, hf, hvs, has]; exact hc
                · have := hy b rfl
                  subst this
                  have hne : b ≠ c := fun e => hcy (by rw [e])
                  simp [Cfg.wr, hne]; omega
              · cases hs
            · cases hs
          · cases hs
        · rename_i hm
          split at hs
          · rename_i v1 h1 hc
            simp only [Option.some.injEq, Prod.mk.injEq] at hs
            obtain ⟨rfl, rfl, rfl, rfl⟩ := hs
            obtain ⟨hhs, _⟩ := callM_ok hcall hc
            refine ⟨fun b h => h, fun b h => .inl h, fun b h => h, fun y _ _ => .inr (.inr ⟨hw, hic, hhs.len, ⟨h.length, none, h.length⟩, rfl, ?_, fun b hb _ => ?_⟩)⟩
            · simp only [opEv, hop, hf, hvs]; exact hc
            · simp [Cfg.wr]; omega
          · cases hs
        · cases hs
      · cases hs
    · rename_i t p y hop
      have hic : isCall o = true := by simp [isCall, hop]
      split at hs
      · rename_i b off hp
        split at hs
        · rename_i hcond
          simp only [Bool.and_eq_true] at hcond
          split at hs
          · rename_i v1 h1 hv
            simp only [Option.some.injEq, Prod.mk.injEq] at hs
            obtain ⟨rfl, rfl, rfl, rfl⟩ := hs
            refine ⟨fun c hc' => ?_, fun c hc' => ?_, fun b h => h, fun y' hy _ => .inr (.inr ⟨hw, hic, by rw [opV_store_len hv]; exact Nat.le_refl _, ⟨h.length, some b, h.length⟩, rfl, ?_, fun c hcl hcy => ?_⟩)⟩
            · subst hc'
              have := hcond.2
              simp only [xOK, beq_iff_eq] at this
              rw [this]
            · cases hc'; exact .inr hcond.1
            · rw [hop]; exact hv
            · have := hy b rfl
              subst this
              have hne : b ≠ c := fun e => hcy (by rw [e])
              simp [Cfg.wr, hne]; omega
          · cases hs
        · cases hs
      · cases hs
    · rename_i hnc hns
      have hic : isCall o = false := by
        unfold isCall
        split
        · rename_i f args tys hop; exact absurd hop (hnc f args tys)
        · rename_i t p y hop; exact absurd hop (hns t p y)
        · rfl
      split at hs
      · rename_i hh
        split at hs
        · rename_i v1 h1 hv
          simp only [Option.some.injEq, Prod.mk.injEq] at hs
          obtain ⟨rfl, rfl, rfl, rfl⟩ := hs
          refine ⟨fun b h => h, fun b h => .inl h, fun b h => ?_, fun y hy hld => .inr (.inl ⟨hw, hic, hh, hv, fun b hb hr => ?_⟩)⟩
          · split
            · exact List.mem_cons_of_mem _ h
            · exact h
          · refine hld b hb ?_
            rw [hr]
            exact List.mem_cons_self
        · cases hs
      · cases hs
structure Tr (P : Program) (md : FuncId → Nat) (call : Callf) (cfg : Cfg) (ops : Array Oper) (N : Nat) (x : Option Nat) (F : Nat → List V) (H : Nat → Heap) (v : Nat → V) : Prop where
  xlt : ∀ b, x = some b → b < (H 0).length
  xwr : ∀ b, x = some b → cfg.wr b = true
  step : ∀ i o, i < N → ops[i]? = some o → F (i + 1) = put (F i) o.dst (v i) ∧ Kind P md call cfg ops o (F i) (H i) (v i) (H (i + 1)) x
theorem upTo {p : Nat → Prop} {N : Nat} (hs : ∀ i, i < N → p i → p (i + 1)) {i : Nat} (hi : p i) : ∀ (j : Nat), i ≤ j → j ≤ N → p j := by
  intro j hij
  induction hij with
  | refl => intro _; exact hi
  | step _ ih => intro hj; exact hs _ (by omega) (ih (by omega))
theorem tr_of_run (hN : Named P) {md : FuncId → Nat} {call : Callf} (hcall : CallOK P call) {cfg : Cfg} {N : Nat} (hle : N ≤ ops.size) {fr fr1 : List V} {h h1 : Heap} {x : Option Nat} {ld : List Nat}
    (hr : headRun P md call cfg ops (ops.toList.take N) fr h none [] = some (fr1, h1, x, ld)) (hx : ldOK h.length ld x = true) :
    ∃ F H v, F 0 = fr ∧ H 0 = h ∧ F N = fr1 ∧ H N = h1 ∧ Tr P md call cfg ops N x F H v := by
  obtain ⟨F, H, X, D, v, e1, e2, e3, e4, e5, e6, e7, e8, hst⟩ := head_trace _ _ _ _ _ hr
  have hlen : (ops.toList.take N).length = N := by simp; omega
  rw [hlen] at e5 e6 e7 e8
  have hget : ∀ i o, i < N → ops[i]? = some o → (ops.toList.take N)[i]? = some o := fun i o hi ho => by rw [List.getElem?_take, if_pos hi]; simpa using ho
  have info := fun i o (hi : i < N) (ho : ops[i]? = some o) => head_info hN hcall (hst i o (hget i o hi ho)).1
  -- x and ld only grow
  have hXup : ∀ i, i ≤ N → ∀ b, X i = some b → x = some b := by
    intro i hi b hb
    rw [← e7]
    exact upTo (p := fun j => X j = some b) (N := N) (fun j hj hjb => (info j ops[j] hj (Array.getElem?_eq_getElem (by omega))).1 b hjb) hb N hi (Nat.le_refl _)
  have hDup : ∀ i, i ≤ N → ∀ b ∈ D i, b ∈ ld := by
    intro i hi b hb
    rw [← e8]
    exact upTo (p := fun j => b ∈ D j) (N := N) (fun j hj hjb => (info j ops[j] hj (Array.getElem?_eq_getElem (by omega))).2.2.1 b hjb) hb N hi (Nat.le_refl _)
  refine ⟨F, H, v, e1, e2, e5, e6, fun b hb => ?_, fun b hb => ?_, fun i o hi ho => ?_⟩
  · subst hb
    rw [e2]
    simp only [ldOK, Bool.and_eq_true, decide_eq_true_eq] at hx
    exact hx.2
  · have key : ∀ i, i ≤ N → ∀ b, X i = some b → cfg.wr b = true := by
      intro i
      induction i with
      | zero => intro _ b hb; rw [e3] at hb; cases hb
      | succ i ih =>
        intro hi b hb
        rcases (info i ops[i] (by omega) (Array.getElem?_eq_getElem (by omega))).2.1 b hb with h1 | h1
        · exact ih (by omega) b h1
        · exact h1
    exact key N (Nat.le_refl _) b (by rw [e7]; exact hb)
  · refine ⟨(hst i o (hget i o hi ho)).2, (info i o hi ho).2.2.2 x (fun b hb => hXup (i + 1) (by omega) b hb) fun b hb hmem => ?_⟩
    subst hb
    simp only [ldOK, Bool.and_eq_true, Bool.not_eq_true', decide_eq_true_eq] at hx
    have := hDup (i + 1) (by omega) b hmem
    have h2 := hx.1
    simp at h2
    exact h2 this
end
end Go.Ab
namespace Go.Ab
theorem Bel.mono {s t : Nat} (hst : s ≤ t) {v : V} (h : Bel s v) : Bel t v := by
  induction h with
  | rf h => exact .rf h
  | ptr h => exact .ptr (by omega)
  | sl h => exact .sl (by omega)
  | mref h => exact .mref (by omega)
  | func _ _ ih ih' => exact .func ih ih'
  | agg _ ih => exact .agg ih
  | tup _ ih => exact .tup ih
  | iface _ ih => exact .iface ih
section
variable {P : Program} {md : FuncId → Nat} {call : Callf} {cfg : Cfg} {ops : Array Oper} {N : Nat} {x : Option Nat} {F : Nat → List V} {H : Nat → Heap} {v : Nat → V}
theorem Tr.len1 (tr : Tr P md call cfg ops N x F H v) (hle : N ≤ ops.size) {i : Nat} (hi : i < N) : (H i).length ≤ (H (i + 1)).length := by
  obtain ⟨_, hk⟩ := tr.step i ops[i] hi (Array.getElem?_eq_getElem (by omega))
  rcases hk with ⟨_, _, h⟩ | ⟨_, _, h1, h2, _⟩ | ⟨_, _, h, _⟩
  · rw [h]; exact Nat.le_refl _
  · rcases opV_head_heap h1 h2 with h | ⟨n, h⟩ <;> rw [h] <;> simp
  · omega
theorem Tr.len (tr : Tr P md call cfg ops N x F H v) (hle : N ≤ ops.size) {i j : Nat} (hij : i ≤ j) (hj : j ≤ N) : (H i).length ≤ (H j).length :=
  upTo (p := fun j => (H i).length ≤ (H j).length) (N := N) (fun _ hk h => Nat.le_trans h (tr.len1 hle hk)) (Nat.le_refl _) j hij hj
theorem Tr.hs (hN : Named P) (hcall : CallOK P call) (tr : Tr P md call cfg ops N x F H v) (hle : N ≤ ops.size) {i : Nat} (hi : i < N) :
    (∀ b, b < (H i).length → x ≠ some b → (H (i + 1))[b]? = (H i)[b]?) ∧ (isCall ops[i] = false → ∀ b, b < (H i).length → (H (i + 1))[b]? = (H i)[b]?) ∧ (∀ (D : Nat → Prop) (t : Nat), t ≤ (H i).length → Inv D (H i) t → Inv D (H (i + 1)) t) := by
  obtain ⟨_, hk⟩ := tr.step i ops[i] hi (Array.getElem?_eq_getElem (by omega))
  rcases hk with ⟨_, _, h⟩ | ⟨_, hic, h1, h2, _⟩ | ⟨_, hic, _, c, hthr, hev, hwr⟩
  · rw [h]; exact ⟨fun _ _ _ => rfl, fun _ _ _ => rfl, fun _ _ _ h => h⟩
  · have key : ∀ b, b < (H i).length → (H (i + 1))[b]? = (H i)[b]? := by
      intro b hb
      rcases opV_head_heap h1 h2 with h | ⟨n, h⟩
      · rw [h]
      · rw [h, List.getElem?_append_left hb]
    refine ⟨fun b hb _ => key b hb, fun _ b hb => key b hb, fun D t ht hinv b cs hb hD hc c hcc => ?_⟩
    rw [key b (by omega)] at hc
    exact hinv b cs hb hD hc c hcc
  · obtain ⟨_, hhs⟩ := opEv_ok hN hcall hev
    refine ⟨fun b hb hx => hhs.prot b hb (hwr b hb hx), (fun h => by rw [hic] at h; cases h), fun D t ht hinv => hhs.inv D t (by rw [hthr]; exact ht) ht hinv⟩
theorem Tr.same (hN : Named P) (hcall : CallOK P call) (tr : Tr P md call cfg ops N x F H v) (hle : N ≤ ops.size) {i j b : Nat} (hij : i ≤ j) (hj : j ≤ N) (hb : b < (H i).length) (hx : x ≠ some b) : (H j)[b]? = (H i)[b]? := by
  have := upTo (p := fun j => b < (H j).length ∧ (H j)[b]? = (H i)[b]?) (N := N) (fun k hk h => ⟨Nat.lt_of_lt_of_le h.1 (tr.len1 hle hk), ((tr.hs hN hcall hle hk).1 b h.1 hx).trans h.2⟩) ⟨hb, rfl⟩ j hij hj
  exact this.2
theorem Tr.xsame (hN : Named P) (hcall : CallOK P call) (tr : Tr P md call cfg ops N x F H v) (hle : N ≤ ops.size) {i j b : Nat} (hij : i ≤ j) (hj : j ≤ N) (hb : b < (H i).length) (hnc : ∀ k (hk : k < ops.size), i ≤ k → k < j → isCall ops[k] = false) : (H j)[b]? = (H i)[b]? := by
  have := upTo (p := fun q => b < (H q).length ∧ (H q)[b]? = (H i)[b]? ∧ i ≤ q) (N := j) (fun k hk h => ⟨Nat.lt_of_lt_of_le h.1 (tr.len1 hle (by omega)), ((tr.hs hN hcall hle (by omega)).2.1 (hnc k (by omega) h.2.2 hk) b h.1).trans h.2.1, by omega⟩) ⟨hb, rfl, Nat.le_refl _⟩ j hij (Nat.le_refl _)
  exact this.2.1
def G (H : Nat → Heap) (N : Nat) (x : Option Nat) (k : Nat) : Heap :=
  match x with
  | some b => (H N).set b ((H k).getD b none)
  | none => H N
theorem G_length (k : Nat) : (G H N x k).length = (H N).length := by
  unfold G
  split <;> simp
theorem G_other {k b : Nat} (hx : x ≠ some b) : (G H N x k)[b]? = (H N)[b]? := by
  unfold G
  split
  · rename_i c
    rw [List.getElem?_set_ne (fun e => hx (by rw [e]))]
  · rfl
theorem G_x {k b : Nat} (hx : x = some b) (h1 : b < (H N).length) (h2 : b < (H k).length) : (G H N x k)[b]? = (H k)[b]? := by
  subst hx
  simp only [G]
  rw [List.getElem?_set_self h1, List.getD_eq_getElem?_getD, List.getElem?_eq_getElem h2]
  simp
def Hx (H : Nat → Heap) (x : Option Nat) (k i : Nat) : Heap :=
  match x with
  | some b => (H i).set b ((H k).getD b none)
  | none => H i
theorem G_take (hN : Named P) (hcall : CallOK P call) (tr : Tr P md call cfg ops N x F H v) (hle : N ≤ ops.size) {i k : Nat} (hi : i ≤ N) (hk : k ≤ N) : (G H N x k).take (H i).length = Hx H x k i := by
  have hl := tr.len hle hi (Nat.le_refl _)
  apply List.ext_getElem?
  intro b
  rw [List.getElem?_take]
  split
  · rename_i hb
    by_cases hx : x = some b
    · have hb0 := tr.xlt b hx
      have hbk : b < (H k).length := Nat.lt_of_lt_of_le hb0 (tr.len hle (Nat.zero_le _) hk)
      rw [G_x hx (by omega) hbk]
      subst hx
      simp only [Hx]
      rw [List.getElem?_set_self hb, List.getD_eq_getElem?_getD, List.getElem?_eq_getElem hbk]
      simp
    · rw [G_other hx, tr.same hN hcall hle hi (Nat.le_refl _) hb hx]
      unfold Hx
      split
      · rename_i c
        rw [List.getElem?_set_ne (fun e => hx (by rw [e]))]
      · rfl
  · rename_i hb
    unfold Hx
    split <;> rw [List.getElem?_eq_none (by first | omega | (simp; omega))]
theorem Hx_self (tr : Tr P md call cfg ops N x F H v) (hle : N ≤ ops.size) {i k : Nat} (hi : i ≤ N) (hk : k ≤ N) (hsame : ∀ b, x = some b → (H i)[b]? = (H k)[b]?) : Hx H x k i = H i := by
  unfold Hx
  split
  · rename_i b
    have hb0 := tr.xlt b rfl
    have hbk : b < (H k).length := Nat.lt_of_lt_of_le hb0 (tr.len hle (Nat.zero_le _) hk)
    have hbi : b < (H i).length := Nat.lt_of_lt_of_le hb0 (tr.len hle (Nat.zero_le _) hi)
    have h1 := hsame b rfl
    apply List.ext_getElem?
    intro c
    by_cases hcb : b = c
    · subst hcb
      rw [List.getElem?_set_self hbi, List.getD_eq_getElem?_getD, ← h1, List.getElem?_eq_getElem hbi]
      simp
    · rw [List.getElem?_set_ne hcb]
  · rfl
structure JH (ops : Array Oper) (N : Nat) (x : Option Nat) (F : Nat → List V) (H : Nat → Heap) (v : Nat → V) (m0 : Mu) (w0 : World) (S : Nat → Bool) (a : Act) (w : World) (m : Mu) (k : Nat) : Prop where
  kle : k ≤ N
  kcall : ∀ i (hi : i < ops.size), i < N → isCall ops[i] = true → (S i = true ↔ i < k)
  tail : ∀ i, N ≤ i → S i = false
  evo : Evo m0 (H 0) w0 m (G H N x k) w
  rel : Rel m (G H N x k) w
  fR : FR m (G H N x k) w (frS ops v S (F 0) N) a
  dom : ∀ b c, live (G H N x k) b → m b = some c → b < (H 0).length ∨ ∃ i, S i = true ∧ i < N ∧ (H i).length ≤ b ∧ b < (H (i + 1)).length
  bel : ∀ b c cs, (G H N x k)[b]? = some (some cs) → m b = some c → ∀ j, j ≤ N → b < (H j).length → ∀ e ∈ cs, Bel (H j).length e
  vb : ∀ i, S i = true → i < N → Bel (H (i + 1)).length (v i)
theorem F_frS (tr : Tr P md call cfg ops N x F H v) (hle : N ≤ ops.size) {i : Nat} (hi : i ≤ N) : F i = frS ops v (fun _ => true) (F 0) i := by
  induction i with
  | zero => rfl
  | succ i ih =>
    have ho : ops[i]? = some ops[i] := Array.getElem?_eq_getElem (by omega)
    rw [(tr.step i ops[i] (by omega) ho).1, ih (by omega)]
    simp [frS, ho]
theorem slot_eq (st : Static P ops N) (tr : Tr P md call cfg ops N x F H v) {S : Nat → Bool} (hcl : Closed ops S) {i : Nat} {o : Oper} (hi : i < N) (ho : ops[i]? = some o) (hS : S i = false) (hr : Ready S o) {s : Nat} (hs : s ∈ o.looksAt ops) :
    (frS ops v S (F 0) N)[s]? = (F i)[s]? := by
  rw [F_frS tr st.le (by omega : i ≤ N), ← frS_below (ops := ops) (v := v) (fr := F 0) N (by omega : i ≤ N)]
  refine frS_slot N fun j oj hj hoj => ?_
  by_cases hji : j < i
  · simp only [hji, decide_true]
    by_cases hSj : S j = true
    · exact .inl hSj
    · right
      rcases st.head j i oj o hji hi hoj ho with h | ⟨h, _⟩
      · exact absurd (ord_listed st.back hcl i o ho hr h) hSj
      · exact fun hd => (Oper.apart_spec h).1 s hd hs
  · simp only [hji, decide_false]
    by_cases hSj : S j = true
    · right
      have hji' : i < j := by
        rcases Nat.lt_or_ge i j with h | h
        · exact h
        · have : i = j := by omega
          subst this
          rw [hS] at hSj; cases hSj
      rcases st.head i j o oj hji' hj ho hoj with h | ⟨h, _⟩
      · have := ord_listed st.back hcl j oj hoj (hcl j oj hoj hSj) h
        rw [hS] at this; cases this
      · exact fun hd => (Oper.apart_spec h).2.2 s hd hs
    · exact .inl (by simpa using hSj)
theorem late_dst (st : Static P ops N) {S : Nat → Bool} (hcl : Closed ops S) {i : Nat} {o : Oper} (ho : ops[i]? = some o) (hS : S i = false) :
    ∀ j oj, i < j → j < N → ops[j]? = some oj → S j = true → ∀ s, o.dst = some s → oj.dst ≠ some s := by
  intro j oj hij hj hoj hSj s hs
  rcases st.head i j o oj hij hj ho hoj with h | ⟨h, _⟩
  · have := ord_listed st.back hcl j oj hoj (hcl j oj hoj hSj) h
    rw [hS] at this; cases this
  · exact (Oper.apart_spec h).2.1 s hs
theorem slot_bel (tr : Tr P md call cfg ops N x F H v) (hle : N ≤ ops.size) {s : Nat} (h0 : ∀ c, (F 0)[s]? = some c → Bel (H 0).length c) : ∀ (i : Nat), i ≤ N → (∀ j o, j < i → ops[j]? = some o → o.dst = some s → Bel (H (j + 1)).length (v j)) →
    ∀ c, (F i)[s]? = some c → Bel (H i).length c := by
  intro i
  induction i with
  | zero => intro _ _ c hc; exact h0 c hc
  | succ i ih =>
    intro hi hw c hc
    have ho : ops[i]? = some ops[i] := Array.getElem?_eq_getElem (by omega)
    rw [(tr.step i ops[i] (by omega) ho).1] at hc
    by_cases hd : ops[i].dst = some s
    · rw [hd] at hc
      simp only [put] at hc
      by_cases hlt : s < (F i).length
      · rw [List.getElem?_set_self hlt] at hc
        cases hc
        exact hw i ops[i] (by omega) ho hd
      · rw [List.set_eq_of_length_le (by omega), List.getElem?_eq_none (by omega)] at hc
        cases hc
    · rw [put_get hd] at hc
      exact (ih (by omega) (fun j o hj => hw j o (by omega)) c hc).mono (tr.len1 hle (by omega))
end
end Go.Ab
namespace Go.Ab
section
variable {P : Program} {md : FuncId → Nat} {call : Callf} {cfg : Cfg} {ops : Array Oper} {N : Nat} {x : Option Nat} {F : Nat → List V} {H : Nat → Heap} {v : Nat → V} {m0 : Mu} {w0 : World}
theorem addTo_self (S : Nat → Bool) (i : Nat) : addTo S i i = true := by simp [addTo]
theorem addTo_of {S : Nat → Bool} {i j : Nat} (h : S j = true) : addTo S i j = true := by simp only [addTo]; split <;> simp_all
theorem addTo_ne {S : Nat → Bool} {i j : Nat} (h : j ≠ i) : addTo S i j = S j := by simp [addTo, h]
theorem call_order (st : Static P ops N) {S : Nat → Bool} {k : Nat} (hk : ∀ i (hi : i < ops.size), i < N → isCall ops[i] = true → (S i = true ↔ i < k)) (hcl : Closed ops S) {i : Nat} {o : Oper} (hi : i < N) (ho : ops[i]? = some o) (hS : S i = false) (hr : Ready S o) (hc : isCall o = true) :
    k ≤ i ∧ (∀ j (hj : j < ops.size), k ≤ j → j < i → isCall ops[j] = false) ∧ ∀ j (hj : j < ops.size), j < N → isCall ops[j] = true → (addTo S i j = true ↔ j < i + 1) := by
  have hio : i < ops.size := (Array.getElem?_eq_some_iff.1 ho).1
  have hoe : ops[i] = o := (Array.getElem?_eq_some_iff.1 ho).2
  have hki : k ≤ i := by
    rcases Nat.lt_or_ge i k with h | h
    · have := (hk i hio hi (by rw [hoe]; exact hc)).2 h
      rw [hS] at this; cases this
    · exact h
  have hlow : ∀ j (hj : j < ops.size), j < i → isCall ops[j] = true → S j = true := by
    intro j hj hji hcj
    rcases st.head j i ops[j] o hji hi (Array.getElem?_eq_getElem hj) ho with h | ⟨_, h⟩
    · exact ord_listed st.back hcl i o ho hr h
    · exact absurd ⟨hcj, hc⟩ h
  refine ⟨hki, fun j hj hkj hji => ?_, fun j hj hjN hcj => ?_⟩
  · cases hcj : isCall ops[j] with
    | false => rfl
    | true =>
      have h1 := (hk j hj (by omega) hcj).1 (hlow j hj hji hcj)
      omega
  · by_cases hji : j = i
    · subst hji; simp [addTo_self]
    · rw [addTo_ne hji]
      constructor
      · intro hSj
        rcases Nat.lt_or_ge j i with h | h
        · omega
        · exfalso
          have hij : i < j := by omega
          rcases st.head i j o ops[j] hij hjN ho (Array.getElem?_eq_getElem hj) with h2 | ⟨_, h2⟩
          · have := ord_listed st.back hcl j _ (Array.getElem?_eq_getElem hj) (hcl j _ (Array.getElem?_eq_getElem hj) hSj) h2
            rw [hS] at this; cases this
          · exact h2 ⟨hc, hcj⟩
      · intro hlt
        exact hlow j hj (by omega) hcj
theorem call_other {S : Nat → Bool} {k : Nat} (hk : ∀ i (hi : i < ops.size), i < N → isCall ops[i] = true → (S i = true ↔ i < k)) {i : Nat} {o : Oper} (ho : ops[i]? = some o) (hc : isCall o = false) :
    ∀ j (hj : j < ops.size), j < N → isCall ops[j] = true → (addTo S i j = true ↔ j < k) := by
  intro j hj hjN hcj
  have hji : j ≠ i := by
    rintro rfl
    have hoe : ops[j] = o := (Array.getElem?_eq_some_iff.1 ho).2
    rw [hoe, hc] at hcj; cases hcj
  rw [addTo_ne hji]
  exact hk j hj hjN hcj
theorem jh_new (st : Static P ops N) (_hN : Named P) (_hcall : CallOK P call) (tr : Tr P md call cfg ops N x F H v) {S : Nat → Bool} {a : Act} {w : World} {m : Mu} {k : Nat} (J : JH ops N x F H v m0 w0 S a w m k) (hcl : Closed ops S)
    {i : Nat} {o : Oper} (hi : i < N) (ho : ops[i]? = some o) (hS : S i = false) {k' : Nat} (hk' : k' ≤ N) (hkc : ∀ j (hj : j < ops.size), j < N → isCall ops[j] = true → (addTo S i j = true ↔ j < k'))
    {m' : Mu} {w' : World} {u : Value} (e : Evo (m.cut (G H N x k) (H i).length) ((G H N x k).take (H i).length) w m' ((G H N x k').take (H (i + 1)).length) w') (r' : Rel m' ((G H N x k').take (H (i + 1)).length) w')
    (hru : R m' ((G H N x k').take (H (i + 1)).length) w' (v i) u)
    (hbx : ∀ b c cs, b < (H i).length → x = some b → (G H N x k')[b]? = some (some cs) → m' b = some c → ∀ j, j ≤ N → b < (H j).length → ∀ e ∈ cs, Bel (H j).length e) :
    JH ops N x F H v m0 w0 (addTo S i) (a.put o.dst u) w' (m.glue m' (H (i + 1)).length) k' := by
  have hle := st.le
  have hnn := tr.len1 hle hi
  have hn0 := tr.len hle (Nat.zero_le i) (by omega : i ≤ N)
  have hn'N := tr.len hle (by omega : i + 1 ≤ N) (Nat.le_refl N)
  have hgl : ∀ q, (G H N x q).length = (H N).length := G_length
  have hsame : ∀ b, (H i).length ≤ b → (G H N x k')[b]? = (G H N x k)[b]? := by
    intro b hb
    have hne : x ≠ some b := fun h => by have := tr.xlt b h; omega
    rw [G_other hne, G_other hne]
  have hsame' : ∀ b, (H (i + 1)).length ≤ b → (G H N x k')[b]? = (G H N x k)[b]? := fun b hb => hsame b (by omega)
  have hnew : ∀ b, (H i).length ≤ b → b < (H (i + 1)).length → live (G H N x k') b → live (G H N x k) b ∧ m b = none := by
    intro b h1 h2 hl
    have hlk : live (G H N x k) b := by
      obtain ⟨cs, hc⟩ := hl
      exact ⟨cs, by rw [← hsame b h1]; exact hc⟩
    refine ⟨hlk, ?_⟩
    cases hm : m b with
    | none => rfl
    | some c =>
      exfalso
      rcases J.dom b c hlk hm with h | ⟨j, hSj, hjN, hj1, hj2⟩
      · omega
      · rcases Nat.lt_trichotomy j i with h | h | h
        · have := tr.len hle (by omega : j + 1 ≤ i) (by omega); omega
        · subst h; rw [hS] at hSj; cases hSj
        · have := tr.len hle (by omega : i + 1 ≤ j) (by omega); omega
  have hzz := e.zeq
  have ew := evw_glue (n := (H i).length) (n' := (H (i + 1)).length) J.rel (by rw [hgl]; omega) hnn (by rw [hgl, hgl]) hsame' hnew e
  have rg := rel_glue (n := (H i).length) (n' := (H (i + 1)).length) J.rel (by rw [hgl]; omega) hnn (by rw [hgl, hgl]) (by rw [hgl]; omega) hsame' hnew e r'
  have rglue : ∀ {y : V} {z : Value}, R m' ((G H N x k').take (H (i + 1)).length) w' y z → R (m.glue m' (H (i + 1)).length) (G H N x k') w' y z := fun h => h.glue (n := (H i).length) hzz hnn hsame' (by rw [hgl]; omega)
  have htk : ((G H N x k').take (H (i + 1)).length).length = (H (i + 1)).length := by rw [List.length_take, hgl]; omega
  have htk0 : ((G H N x k).take (H i).length).length = (H i).length := by rw [List.length_take, hgl]; omega
  have hkeep : ∀ b c, b < (H i).length → live (G H N x k') b → m' b = some c → live (G H N x k) b ∧ m b = some c := by
    intro b c hb hl hm
    obtain ⟨h1, h2⟩ := e.keep b (by rw [htk0]; exact hb) ((live_take' (by omega)).2 hl)
    refine ⟨(live_take h1).2, ?_⟩
    rw [h2] at hm
    simpa [Mu.cut, hb] using hm
  refine ⟨hk', hkc, fun j hj => ?_, ?_, rg, ?_, fun b c hl hm => ?_, fun b c cs hc hm j hj hbj f hf => ?_, fun j hSj hj => ?_⟩
  · rw [addTo_ne (by omega)]; exact J.tail j hj
  · have E := J.evo
    refine ⟨E.zeq, by rw [hgl]; have := E.len; rw [hgl] at this; exact this, fun b hb hl => ?_, fun b c hl hb => ?_, fun b hb hno => ?_, Nat.le_trans E.size e.size, fun b hb => Nat.le_trans (E.rs b hb) (e.rs b (Nat.lt_of_lt_of_le hb E.size)), e.os.trans E.os, e.tape.trans E.tape, e.output.trans E.output⟩
    · obtain ⟨h1, h2⟩ := e.keep b (by rw [htk0]; omega) ((live_take' (by omega)).2 hl)
      obtain ⟨h3, h4⟩ := E.keep b hb (live_take h1).2
      refine ⟨h3, ?_⟩
      simp only [Mu.glue, show b < (H (i + 1)).length by omega, if_true, h2]
      simpa [Mu.cut, show b < (H i).length by omega] using h4
    · rcases ew.own b c hl hb with ⟨y, hy, hyb⟩ | hge
      · exact E.own y c hy hyb
      · exact .inr (Nat.le_trans E.size hge)
    · refine (ew.frame b (Nat.lt_of_lt_of_le hb E.size) fun y hy hyb => ?_).trans (E.frame b hb hno)
      rcases E.own y b hy hyb with ⟨z, hz, hzb⟩ | hge
      · exact hno z hz hzb
      · omega
  · rw [frS_add ho hS N hi (late_dst st hcl ho hS)]
    have f1 : FR (m.glue m' (H (i + 1)).length) (G H N x k') w' (frS ops v S (F 0) N) a := ⟨J.fR.len, fun s y z hy hz => (J.fR.slot s y z hy hz).evw ew J.rel.lt, J.fR.defers⟩
    exact f1.put (rglue hru) o.dst
  · by_cases hb1 : b < (H i).length
    · simp only [Mu.glue, show b < (H (i + 1)).length by omega, if_true] at hm
      obtain ⟨h1, h2⟩ := hkeep b c hb1 hl hm
      rcases J.dom b c h1 h2 with h | ⟨j, hSj, hjN, hj1, hj2⟩
      · exact .inl h
      · exact .inr ⟨j, addTo_of hSj, hjN, hj1, hj2⟩
    · by_cases hb2 : b < (H (i + 1)).length
      · exact .inr ⟨i, addTo_self S i, hi, by omega, hb2⟩
      · simp only [Mu.glue, hb2, if_false] at hm
        obtain ⟨cs, hc⟩ := hl
        rw [hsame' b (by omega)] at hc
        rcases J.dom b c ⟨cs, hc⟩ hm with h | ⟨j, hSj, hjN, hj1, hj2⟩
        · exact .inl h
        · exact .inr ⟨j, addTo_of hSj, hjN, hj1, hj2⟩
  · by_cases hb1 : b < (H i).length
    · simp only [Mu.glue, show b < (H (i + 1)).length by omega, if_true] at hm
      by_cases hx : x = some b
      · exact hbx b c cs hb1 hx hc hm j hj hbj f hf
      · obtain ⟨h1, h2⟩ := hkeep b c hb1 ⟨cs, hc⟩ hm
        rw [G_other hx, ← G_other (k := k) hx] at hc
        exact J.bel b c cs hc h2 j hj hbj f hf
    · by_cases hb2 : b < (H (i + 1)).length
      · simp only [Mu.glue, hb2, if_true] at hm
        have hbl := (r'.blk b cs c (by rw [List.getElem?_take, if_pos hb2]; exact hc) hm).bel hf
        rw [htk] at hbl
        have hij : i + 1 ≤ j := by
          rcases Nat.lt_or_ge i j with h | h
          · omega
          · have := tr.len hle h (by omega); omega
        exact hbl.mono (tr.len hle hij hj)
      · simp only [Mu.glue, hb2, if_false] at hm
        rw [hsame' b (by omega)] at hc
        exact J.bel b c cs hc hm j hj hbj f hf
  · by_cases hji : j = i
    · subst hji
      have := hru.bel
      rwa [htk] at this
    · rw [addTo_ne hji] at hSj
      exact J.vb j hSj hj
end
end Go.Ab
namespace Go.Ab
def onlyAt (looks : List Nat) (fr : List V) : List V := fr.mapIdx fun s c => if looks.contains s then c else .any
theorem onlyAt_length (looks : List Nat) (fr : List V) : (onlyAt looks fr).length = fr.length := by simp [onlyAt]
theorem onlyAt_in {looks : List Nat} {fr : List V} {s : Nat} (hs : s ∈ looks) : (onlyAt looks fr)[s]? = fr[s]? := by
  simp only [onlyAt, List.getElem?_mapIdx]
  cases fr[s]? <;> simp [hs]
theorem onlyAt_out {looks : List Nat} {fr : List V} {s : Nat} (hs : ¬ s ∈ looks) {c : V} (hc : (onlyAt looks fr)[s]? = some c) : c = .any := by
  simp only [onlyAt, List.getElem?_mapIdx] at hc
  cases h : fr[s]? with
  | none => simp [h] at hc
  | some d => simp [h, hs] at hc; exact hc.symm
theorem wantd_congr {ops : Array Oper} {o : Oper} {fr fr' : List V} (h : ∀ s ∈ o.looksAt ops, fr[s]? = fr'[s]?) : wantd ops fr o = wantd ops fr' o := by
  unfold wantd
  cases hg : o.guard with
  | none => rfl
  | some g =>
    obtain ⟨j, want⟩ := g
    simp only
    cases hp : ops[j]? with
    | none => rfl
    | some p =>
      simp only
      cases hd : p.dst with
      | none => rfl
      | some d =>
        simp only
        rw [h d (by simp [Oper.looksAt, hg, hp, hd])]
theorem ev_congr {ops : Array Oper} {o : Oper} {fr fr' : List V} (h : ∀ s ∈ o.looksAt ops, fr[s]? = fr'[s]?) : ∀ p ∈ o.op.operands.toList, ev fr p = ev fr' p := by
  intro p hp
  cases p with
  | tmp t =>
    simp only [ev]
    refine h t ?_
    simp only [Oper.looksAt, List.mem_append, List.mem_filterMap]
    exact .inl ⟨.tmp t, hp, rfl⟩
  | const v => rfl
  | global g => rfl
  | func f => rfl
theorem opEv_nocall {P : Program} {md : FuncId → Nat} {call : Callf} {c : Cfg} {fr : List V} {h : Heap} {o : Oper} (hc : isCall o = false) : opEv P md call c fr h o.op = opV P c fr h o.op := by
  unfold isCall at hc
  unfold opEv
  split at hc
  · cases hc
  · cases hc
  · rename_i hn _
    split
    · rename_i f args tys hop; exact absurd hop (hn f args tys)
    · rfl
section
variable {P : Program} {md : FuncId → Nat} {call : Callf} {cfg : Cfg} {ops : Array Oper} {N : Nat} {x : Option Nat} {F : Nat → List V} {H : Nat → Heap} {v : Nat → V} {m0 : Mu} {w0 : World}
theorem jh_step (st : Static P ops N) (hN : Named P) (hcall : CallOK P call) (tr : Tr P md call cfg ops N x F H v) (hF0 : ∀ (s : Nat) (c : V), (F 0)[s]? = some c → Bel (H 0).length c) {S : Nat → Bool} {a : Act} {w : World} {m : Mu} {k : Nat}
    (J : JH ops N x F H v m0 w0 S a w m k) (hcl : Closed ops S) {i : Nat} {o : Oper} (hi : i < N) (ho : ops[i]? = some o) (hS : S i = false) (hr : Ready S o) (Q : Exit → Act → World → Prop) :
    wpOp P ops Q i (fun a' w' => ∃ m' k', JH ops N x F H v m0 w0 (addTo S i) a' w' m' k') a w := by
  have hle := st.le
  have hio : i < ops.size := (Array.getElem?_eq_some_iff.1 ho).1
  have hoe : ops[i] = o := (Array.getElem?_eq_some_iff.1 ho).2
  have hslot : ∀ s ∈ o.looksAt ops, (frS ops v S (F 0) N)[s]? = (F i)[s]? := fun s hs => slot_eq st tr hcl hi ho hS hr hs
  have hgl : ∀ q, (G H N x q).length = (H N).length := G_length
  have hiN := tr.len hle (by omega : i ≤ N) (Nat.le_refl N)
  have hn0 := tr.len hle (Nat.zero_le i) (by omega : i ≤ N)
  obtain ⟨hFs, hkind⟩ := tr.step i o hi ho
  have hwd : ∀ b, wantd ops (F i) o = some b → Region.wanted o (yielded ops a.tmps) = b := fun b hb => wantd_ok J.fR (by rw [wantd_congr hslot]; exact hb)
  -- the slots that are looked at, cut to what was there
  have hbelslot : ∀ s ∈ o.looksAt ops, ∀ c, (F i)[s]? = some c → Bel (H i).length c := by
    intro s hs
    refine slot_bel tr hle (hF0 s) i (by omega) fun j oj hj hoj hd => ?_
    have hSj : S j = true := by
      rcases st.head j i oj o hj hi hoj ho with h | ⟨h, _⟩
      · exact ord_listed st.back hcl i o ho hr h
      · exact absurd hs ((Oper.apart_spec h).1 s hd)
    exact J.vb j hSj (by omega)
  have hrelcut : Rel (m.cut (G H N x k) (H i).length) ((G H N x k).take (H i).length) w := J.rel.cut (by rw [hgl]; exact hiN) fun b cs c hb hc hm e he => J.bel b c cs hc hm i (by omega) hb e he
  have hfrcut : FR (m.cut (G H N x k) (H i).length) ((G H N x k).take (H i).length) w (onlyAt (o.looksAt ops) (frS ops v S (F 0) N)) a := by
    refine ⟨by rw [onlyAt_length]; exact J.fR.len, fun s y z hy hz => ?_, J.fR.defers⟩
    by_cases hs : s ∈ o.looksAt ops
    · rw [onlyAt_in hs] at hy
      exact (J.fR.slot s y z hy hz).cut (by rw [hgl]; exact hiN) (hbelslot s hs y (by rw [← hslot s hs]; exact hy))
    · rw [onlyAt_out hs hy]; exact .any _
  have hcong : ∀ s ∈ o.looksAt ops, (F i)[s]? = (onlyAt (o.looksAt ops) (frS ops v S (F 0) N))[s]? := fun s hs => by rw [onlyAt_in hs, hslot s hs]
  -- calls in their one order
  have hxs : ∀ b, x = some b → b < (H k).length := fun b hb => Nat.lt_of_lt_of_le (tr.xlt b hb) (tr.len hle (Nat.zero_le _) J.kle)
  unfold wpOp
  rw [ho]
  simp only
  rcases hkind with ⟨hw, hv, hH⟩ | ⟨hw, hic, hh, hop, hrd⟩ | ⟨hw, hic, hlen, c, hthr, hev, hwr⟩
  · -- it is not carried out
    rw [hwd false hw]
    simp only [Bool.false_eq_true, if_false]
    have fin : ∀ k', k' ≤ N → G H N x k' = G H N x k → (∀ j (hj : j < ops.size), j < N → isCall ops[j] = true → (addTo S i j = true ↔ j < k')) → JH ops N x F H v m0 w0 (addTo S i) (a.put o.dst undef) w m k' := by
      intro k' hk' hG hkc
      refine ⟨hk', hkc, fun j hj => ?_, by rw [hG]; exact J.evo, by rw [hG]; exact J.rel, ?_, fun b c hl hm => ?_, fun b c cs hc => ?_, fun j hSj hj => ?_⟩
      · rw [addTo_ne (by omega)]; exact J.tail j hj
      · rw [frS_add ho hS N hi (late_dst st hcl ho hS), hv, hG]
        exact J.fR.put .no o.dst
      · rw [hG] at hl
        rcases J.dom b c hl hm with h | ⟨j, hSj, h⟩
        · exact .inl h
        · exact .inr ⟨j, addTo_of hSj, h⟩
      · rw [hG] at hc
        exact J.bel b c cs hc
      · by_cases hji : j = i
        · subst hji; rw [hv]; exact .rf rfl
        · rw [addTo_ne hji] at hSj; exact J.vb j hSj hj
    cases hic : isCall o with
    | false => exact ⟨m, k, fin k J.kle rfl (call_other J.kcall ho hic)⟩
    | true =>
      obtain ⟨hki, hno, hkc⟩ := call_order st J.kcall hcl hi ho hS hr hic
      refine ⟨m, i + 1, fin (i + 1) (by omega) ?_ hkc⟩
      unfold G
      split
      · rename_i b
        have h1 := tr.xsame hN hcall hle hki (by omega) (hxs b rfl) hno
        rw [List.getD_eq_getElem?_getD, List.getD_eq_getElem?_getD, hH, h1]
      · rfl
  · -- it reads, computes or makes memory
    rw [hwd true hw]
    simp only [if_true]
    have hgt := G_take hN hcall tr hle (by omega : i ≤ N) J.kle
    have hgt' := G_take hN hcall tr hle (by omega : i + 1 ≤ N) J.kle
    have hop2 : opV P cfg (F i) (Hx H x k i) o.op = some (v i, Hx H x k (i + 1)) := by
      unfold Hx
      split
      · rename_i b
        exact opV_set _ hh (hrd b rfl) (Nat.lt_of_lt_of_le (tr.xlt b rfl) hn0) hop
      · exact hop
    have hev : opEv P md call cfg (onlyAt (o.looksAt ops) (frS ops v S (F 0) N)) ((G H N x k).take (H i).length) o.op = some (v i, (G H N x k).take (H (i + 1)).length) := by
      rw [← opEv_congr (ev_congr hcong), opEv_nocall hic, hgt, hgt']
      exact hop2
    refine .inl ((opEv_ok hN hcall hev).1 _ w a hrelcut hfrcut _ Q fun u w' ⟨m', e, r', hru⟩ => ⟨_, k, jh_new st hN hcall tr J hcl hi ho hS J.kle (call_other J.kcall ho hic) e r' hru ?_⟩)
    intro b cc cs hb hx hc hm j hj hbj f hf
    have htk0 : ((G H N x k).take (H i).length).length = (H i).length := by rw [List.length_take, hgl]; omega
    have hnn := tr.len1 hle hi
    obtain ⟨_, h2⟩ := e.keep b (by rw [htk0]; exact hb) ((live_take' (by omega)).2 ⟨cs, hc⟩)
    rw [h2] at hm
    exact J.bel b cc cs hc (by simpa [Mu.cut, hb] using hm) j hj hbj f hf
  · -- it is a call
    rw [hwd true hw]
    simp only [if_true]
    obtain ⟨hki, hno, hkc⟩ := call_order st J.kcall hcl hi ho hS hr hic
    have hxi : ∀ b, x = some b → (H i)[b]? = (H k)[b]? := fun b hb => tr.xsame hN hcall hle hki (by omega) (hxs b hb) hno
    have hgt := G_take hN hcall tr hle (by omega : i ≤ N) J.kle
    rw [Hx_self tr hle (by omega) J.kle hxi] at hgt
    have hgt' := G_take hN hcall tr hle (by omega : i + 1 ≤ N) (by omega : i + 1 ≤ N)
    rw [Hx_self tr hle (by omega) (by omega) (fun b _ => rfl)] at hgt'
    have hev2 : opEv P md call c (onlyAt (o.looksAt ops) (frS ops v S (F 0) N)) ((G H N x k).take (H i).length) o.op = some (v i, (G H N x (i + 1)).take (H (i + 1)).length) := by
      rw [← opEv_congr (ev_congr hcong), hgt, hgt']
      exact hev
    refine .inl ((opEv_ok hN hcall hev2).1 _ w a hrelcut hfrcut _ Q fun u w' ⟨m', e, r', hru⟩ => ⟨_, i + 1, jh_new st hN hcall tr J hcl hi ho hS (by omega) hkc e r' hru ?_⟩)
    intro b cc cs hb hx hc hm j hj hbj f hf
    have htk0 : ((G H N x k).take (H i).length).length = (H i).length := by rw [List.length_take, hgl]; omega
    have hbN : b < (H N).length := by omega
    have hi1N := tr.len hle (by omega : i + 1 ≤ N) (Nat.le_refl N)
    have hc2 : (H (i + 1))[b]? = some (some cs) := by rw [← G_x (k := i + 1) hx hbN (by omega)]; exact hc
    rcases Nat.lt_or_ge i j with hij | hij
    · have htk : ((G H N x (i + 1)).take (H (i + 1)).length).length = (H (i + 1)).length := by rw [List.length_take, hgl]; omega
      have hbl := (r'.blk b cs cc (by rw [List.getElem?_take, if_pos (by omega)]; exact hc) hm).bel hf
      rw [htk] at hbl
      exact hbl.mono (tr.len hle hij hj)
    · have hjl := tr.len hle hij (by omega)
      have hinv : Inv (fun q => ∃ d, m q = some d) (H i) (H j).length := by
        rintro q cs' hq ⟨d, hd⟩ hcq g hg
        have hqi : q < (H i).length := by omega
        have hqc : (G H N x k)[q]? = some (some cs') := by
          have h3 : ((G H N x k).take (H i).length)[q]? = some (some cs') := by rw [hgt]; exact hcq
          rwa [List.getElem?_take, if_pos hqi] at h3
        exact J.bel q d cs' hqc hd j hj hq g hg
      have hinv2 := (tr.hs hN hcall hle hi).2.2 _ _ hjl hinv
      obtain ⟨_, h2⟩ := e.keep b (by rw [htk0]; exact hb) ((live_take' (by omega)).2 ⟨cs, hc⟩)
      rw [h2] at hm
      exact hinv2 b cs hbj ⟨cc, by simpa [Mu.cut, hb] using hm⟩ hc2 f hf
end
end Go.Ab
namespace Go.Ab
theorem exists_min {p : Nat → Prop} (h : ∃ i, p i) : ∃ i, p i ∧ ∀ j, j < i → ¬ p j := by
  obtain ⟨i, hi⟩ := h
  induction i using Nat.strongRecOn with
  | _ i ih =>
    by_cases hj : ∃ j, j < i ∧ p j
    · obtain ⟨j, hlt, hpj⟩ := hj
      exact ih j hlt hpj
    · exact ⟨i, hi, fun j hlt hpj => hj ⟨j, hlt, hpj⟩⟩
section
variable {P : Program} {ops : Array Oper} {N : Nat} {Q : Exit → Act → World → Prop}
theorem float_apart (st : Static P ops N) {L : Nat → Bool} (hL : Closed ops L) {i : Nat} {oi : Oper} (hi : ops[i]? = some oi) (hr : Ready L oi) {j : Nat} {oj : Oper} (hj : ops[j]? = some oj) (hji : j ≠ i) (hjf : L j = false)
    {S : Nat → Bool} (hSi : S i = false) (hSc : Closed ops S) (hSr : Ready S oj) : Ap ops oi oj := by
  rcases Nat.lt_or_ge j i with hlt | hge
  · have h : ord ops j i = true ∨ oj.apart ops oi = true := by
      rcases Nat.lt_or_ge i N with hiN | hiN
      · rcases st.head j i oj oi hlt hiN hj hi with h | h
        · exact .inl h
        · exact .inr h.1
      · rcases st.tail j i oj oi hiN hlt hj hi with h | h
        · exact .inl h
        · exact .inr h.2
    rcases h with h | h
    · have := ord_listed st.back hL i oi hi hr h
      rw [hjf] at this; cases this
    · exact (Ap.of h).symm
  · have hlt : i < j := by omega
    have h : ord ops i j = true ∨ oi.apart ops oj = true := by
      rcases Nat.lt_or_ge j N with hjN | hjN
      · rcases st.head i j oi oj hlt hjN hi hj with h | h
        · exact .inl h
        · exact .inr h.1
      · rcases st.tail i j oi oj hjN hlt hi hj with h | h
        · exact .inl h
        · exact .inr h.2
    rcases h with h | h
    · have := ord_listed st.back hSc j oj hj hSr h
      rw [hSi] at this; cases this
    · exact Ap.of h
theorem wpAny_float (st : Static P ops N) (J : (Nat → Bool) → Act → World → Prop)
    (hfloat : ∀ S a w, J S a w → Closed ops S → ∀ i o, ops[i]? = some o → S i = false → Ready S o → floats P o = true → (∀ p q, p < i → ops[p]? = some q → S p = false → floats P q = true → ¬ Ready S q) → ∃ u, Blind P ops o a u ∧ J (addTo S i) (a.put o.dst u) w)
    (hstep : ∀ S a w, J S a w → Closed ops S → (∀ p q, ops[p]? = some q → S p = false → floats P q = true → ¬ Ready S q) → ∀ i o, ops[i]? = some o → S i = false → Ready S o → wpOp P ops (only Q) i (J (addTo S i)) a w)
    (hend : ∀ S a w, J S a w → (∀ i, i < ops.size → S i = true) → Q .normal a w) : ∀ (fuel : Nat) (listed : Array Bool) (a : Act) (w : World), listed.size = ops.size → countF listed = fuel → Closed ops (setOf listed) → J (setOf listed) a w →
    wpAny P .any ops (only Q) fuel listed a w
  | 0, listed, a, w, hs, hc, _, hj => by
    have hall : ∀ i, i < ops.size → setOf listed i = true := fun i hi => countF_zero hc (by omega)
    refine ⟨?_, hend _ a w hj hall⟩
    apply List.eq_nil_iff_forall_not_mem.2
    intro i hi
    obtain ⟨o, ho, hf, _⟩ := (mem_ready hs).1 hi
    rw [hall i (Array.getElem?_eq_some_iff.1 ho).1] at hf
    cases hf
  | fuel + 1, listed, a, w, hs, hc, hcl, hj => by
    by_cases hex : ∃ i, ∃ o, ops[i]? = some o ∧ setOf listed i = false ∧ floats P o = true ∧ Ready (setOf listed) o
    · obtain ⟨i, ⟨o, ho, hf, hfl, hr⟩, hmin⟩ := exists_min hex
      obtain ⟨u, hb, hJ⟩ := hfloat _ a w hj hcl i o ho hf hr hfl fun p q hp hq hpf hqf hqr => hmin p hp ⟨q, hq, hpf, hqf, hqr⟩
      have hil : i < listed.size := by rw [hs]; exact (Array.getElem?_eq_some_iff.1 ho).1
      refine wpAny_first st.nosel ho fuel listed a w hs hf hr (fun j oj hoj hji hjf S _ hSi hSc hSr => float_apart st hcl ho hr hoj hji hjf hSi hSc hSr) hcl hb ?_
      have hset := setOf_set hil
      refine wpAny_float st J hfloat hstep hend fuel _ _ w (by simp [hs]) ?_ ?_ (by rw [hset]; exact hJ)
      · have := countF_set hil hf; omega
      · rw [hset]; exact hcl.add ho hr
    · refine ⟨fun hr => hend _ a w hj (all_of_ready_nil st.back hs hr), fun i hi => ?_⟩
      obtain ⟨o, ho, hf, hready⟩ := (mem_ready hs).1 hi
      have hil : i < listed.size := by rw [hs]; exact (Array.getElem?_eq_some_iff.1 ho).1
      refine wpOp_mono (fun a' w' hj' => ?_) (hstep _ a w hj hcl (fun p q hq hpf hqf hqr => hex ⟨p, q, hq, hpf, hqf, hqr⟩) i o ho hf hready)
      have hset := setOf_set hil
      refine wpAny_float st J hfloat hstep hend fuel _ a' w' (by simp [hs]) ?_ ?_ (by rw [hset]; exact hj')
      · have := countF_set hil hf; omega
      · rw [hset]; exact hcl.add ho hready
theorem region_of_float (hm : P.follows .mixedOrders = true) (st : Static P ops N) (J : (Nat → Bool) → Act → World → Prop)
    (hfloat : ∀ S a w, J S a w → Closed ops S → ∀ i o, ops[i]? = some o → S i = false → Ready S o → floats P o = true → (∀ p q, p < i → ops[p]? = some q → S p = false → floats P q = true → ¬ Ready S q) → ∃ u, Blind P ops o a u ∧ J (addTo S i) (a.put o.dst u) w)
    (hstep : ∀ S a w, J S a w → Closed ops S → (∀ p q, ops[p]? = some q → S p = false → floats P q = true → ¬ Ready S q) → ∀ i o, ops[i]? = some o → S i = false → Ready S o → wpOp P ops (only Q) i (J (addTo S i)) a w)
    (hend : ∀ S a w, J S a w → (∀ i, i < ops.size → S i = true) → Q .normal a w) {id : Nat} {a : Act} {w : World} (h0 : J (fun _ => false) a { w with drawn := w.drawn + 1 }) : (Code.region id ops true).wp P Q a w := by
  have hset : setOf (Array.replicate ops.size false) = fun _ => false := by
    funext i; simp [setOf, Array.getD_eq_getD_getElem?, Array.getElem?_replicate]
    split <;> rfl
  refine Code.wp_mono (Q := only Q) ?_ (wp_region_any hm (wpAny_float st J hfloat hstep hend ops.size _ a _ (by simp) ?_ ?_ ?_))
  · intro e a w h
    cases e <;> first | exact h | exact h.elim
  · simp [countF]
  · rw [hset]; intro i o _ h; cases h
  · rw [hset]; exact h0
theorem below_done (st : Static P ops N) {S : Nat → Bool} (hcl : Closed ops S) {i : Nat} {o : Oper} (hi : N ≤ i) (ho : ops[i]? = some o) (hr : Ready S o)
    (hsat : ∀ p q, p < i → ops[p]? = some q → S p = false → floats P q = true → ¬ Ready S q) : ∀ p, p < i → S p = true := by
  intro p
  induction p using Nat.strongRecOn with
  | _ p ih =>
    intro hp
    have hio : i < ops.size := (Array.getElem?_eq_some_iff.1 ho).1
    have hop : ops[p]? = some ops[p] := Array.getElem?_eq_getElem (by omega)
    rcases st.tail p i ops[p] o hi hp hop ho with h | ⟨h, _⟩
    · exact ord_listed st.back hcl i o ho hr h
    · cases hS : S p with
      | true => rfl
      | false =>
        refine absurd ?_ (hsat p _ hp hop hS h)
        intro e he hb
        have hlt := st.back p _ hop e he hb
        exact ih e.on hlt (by omega)
/-! ### What floats -/
def plainV : V → Bool
  | .bool _ | .int .. | .str _ => true
  | _ => false
theorem R.plain {m m' : Mu} {h h' : Heap} {w w' : World} {x : V} {v : Value} (hp : plainV x = true) (hr : R m h w x v) : R m' h' w' x v := by
  cases hr <;> simp only [plainV, Bool.false_eq_true] at hp
  · exact .bool _
  · exact .int _ _
  · exact .str _
theorem R.plain_eq {m m' : Mu} {h h' : Heap} {w w' : World} {x : V} {v v' : Value} (hp : plainV x = true) (hr : R m h w x v) (hr' : R m' h' w' x v') : v = v' := by
  cases hr <;> simp only [plainV, Bool.false_eq_true] at hp <;> cases hr' <;> rfl
theorem binV_plain {op : BinOp} {t : TypeId} {k : IntKind} {x y z : V} (ht : P.underlying t = some (.int k)) (hz : binV P op t x y = some z) : plainV x = true ∧ plainV y = true ∧ plainV z = true := by
  have heq : ∀ x y, eqV P t x y = none := by
    intro x y
    unfold eqV
    split <;> simp [ht]
  unfold binV at hz
  split at hz
  · split at hz
    · cases hz
    · cases hz; exact ⟨rfl, rfl, rfl⟩
  · split at hz
    · cases hz
    · cases hz; exact ⟨rfl, rfl, rfl⟩
  · split at hz
    · refine ⟨rfl, rfl, ?_⟩
      unfold intBin at hz
      split at hz
      all_goals first
        | (cases hz; done)
        | (cases hz; rfl)
        | (split at hz <;> first | (cases hz; done) | (cases hz; rfl))
    · cases hz
  · refine ⟨rfl, rfl, ?_⟩
    unfold strBin at hz
    split at hz
    all_goals first
      | (cases hz; done)
      | (cases hz; rfl)
      | (split at hz <;> first | (cases hz; done) | (cases hz; rfl))
  · rw [heq] at hz; cases hz
  · rw [heq] at hz; cases hz
  · cases hz
theorem unV_plain {op : UnOp} {x z : V} (hz : unV op x = some z) : plainV x = true ∧ plainV z = true := by
  unfold unV at hz
  split at hz
  · cases hz; exact ⟨rfl, rfl⟩
  · simp only [intBin] at hz; cases hz; exact ⟨rfl, rfl⟩
  · cases hz; exact ⟨rfl, rfl⟩
  · cases hz
theorem float_heap {o : Oper} (hf : floats P o = true) {cfg : Cfg} {fr : List V} {h h' : Heap} {v : V} (hv : opV P cfg fr h o.op = some (v, h')) : h' = h ∧ ∀ g, opV P cfg fr g o.op = some (v, g) := by
  unfold floats at hf
  split at hf
  · rename_i hop
    rw [hop] at hv ⊢
    simp only [opV] at hv ⊢
    obtain ⟨h1, h2⟩ := map_pair hv
    exact ⟨h2, fun g => by rw [h1]; rfl⟩
  · rename_i hop
    rw [hop] at hv ⊢
    simp only [opV] at hv ⊢
    split at hv
    · obtain ⟨h1, h2⟩ := map_pair hv
      exact ⟨h2, fun g => by rw [h1]; rfl⟩
    · cases hv
  · rename_i hop
    rw [hop] at hv ⊢
    simp only [opV] at hv ⊢
    split at hv
    · obtain ⟨h1, h2⟩ := map_pair hv
      exact ⟨h2, fun g => by rw [h1]; rfl⟩
    · cases hv
  · rename_i hop
    rw [hop] at hv ⊢
    simp only [opV] at hv ⊢
    split at hv
    · obtain ⟨h1, h2⟩ := map_pair hv
      exact ⟨h2, fun g => by rw [h1]; rfl⟩
    · cases hv
  · cases hf
theorem float_ok {o : Oper} (hf : floats P o = true) {cfg : Cfg} {fr : List V} {h h' : Heap} {v : V} (hv : opV P cfg fr h o.op = some (v, h')) {m : Mu} {g : Heap} {w : World} {a : Act} (f : FR m g w fr a) :
    ∃ u, (∀ w', (execOp a.eval o).run P w' = .ok (.value u) w') ∧ R m g w v u := by
  unfold floats at hf
  split at hf
  · rename_i y hop
    rw [hop] at hv
    simp only [opV] at hv
    obtain ⟨h1, _⟩ := map_pair hv
    exact ⟨a.eval y, fun w' => by simp only [execOp, hop, Sem.run_pure], ev_R f h1⟩
  · rename_i y i hop
    rw [hop] at hv
    simp only [opV] at hv
    split at hv
    · rename_i b hb
      obtain ⟨h1, _⟩ := map_pair hv
      have hx := ev_R f hb
      unfold extractV at h1
      split at h1
      · generalize hvy : a.eval y = vy at hx
        cases hx with
        | tup hl hr =>
          have hlt := (List.getElem?_eq_some_iff.1 h1).1
          rw [← hl] at hlt
          exact ⟨_, fun w' => by simp [execOp, hop, hvy, Instr.extract, hlt], hr i v _ h1 (Array.getElem?_eq_getElem hlt)⟩
      · cases h1
    · cases hv
  · rename_i op t y hop
    rw [hop] at hv
    simp only [opV] at hv
    split at hv
    · rename_i b hb
      obtain ⟨h1, _⟩ := map_pair hv
      have hx := ev_R f hb
      obtain ⟨p1, p2⟩ := unV_plain h1
      obtain ⟨u, hu, hru⟩ := un_ok (P := P) hx h1
      refine ⟨u, fun w' => ?_, hru⟩
      obtain ⟨u', hu', hru'⟩ := un_ok (P := P) (w := w') (hx.plain (m' := m) (h' := g) (w' := w') p1) h1
      rw [hru.plain_eq p2 hru']
      simp only [execOp, hop, Sem.run_bind, hu', Result.andThen_ok, Sem.run_pure]
    · cases hv
  · rename_i op t y z c hop
    split at hf
    · rename_i k ht
      rw [hop] at hv
      simp only [opV] at hv
      split at hv
      · rename_i b d hb hd
        obtain ⟨h1, _⟩ := map_pair hv
        have hx := ev_R f hb
        have hy := ev_R f hd
        obtain ⟨p1, p2, p3⟩ := binV_plain ht h1
        obtain ⟨u, hu, hru⟩ := bin_ok (P := P) (ox := y) (oy := z) hx hy h1
        refine ⟨u, fun w' => ?_, hru⟩
        obtain ⟨u', hu', hru'⟩ := bin_ok (P := P) (ox := y) (oy := z) (w := w') (hx.plain (m' := m) (h' := g) (w' := w') p1) (hy.plain p2) h1
        rw [hru.plain_eq p3 hru']
        have : (execOp a.eval o) = (do let v ← (do eqGuard op t y z (a.eval y) (a.eval z); binOp op t (a.eval y) (a.eval z) : Sem Value); pure (.value v)) := by simp only [execOp, hop]
        rw [this, Sem.run_bind, hu']
        rfl
      · cases hv
    · cases hf
  · cases hf
end
end Go.Ab
namespace Go.Ab
section
variable {P : Program} {md : FuncId → Nat} {call : Callf} {cfg : Cfg} {ops : Array Oper} {N : Nat} {x : Option Nat} {F : Nat → List V} {H : Nat → Heap} {v : Nat → V}
theorem tr_HS (hN : Named P) (hcall : CallOK P call) (tr : Tr P md call cfg ops N x F H v) (hle : N ≤ ops.size) : ∀ i, i ≤ N → HS cfg (H 0) (H i) := by
  intro i
  induction i with
  | zero => intro _; exact .refl _ _
  | succ i ih =>
    intro hi
    refine (ih (by omega)).trans ⟨tr.len1 hle (by omega), fun b hb hw => (tr.hs hN hcall hle (by omega)).1 b hb fun hx => ?_, fun D t _ h2 hinv => (tr.hs hN hcall hle (by omega)).2.2 D t h2 hinv⟩
    rw [tr.xwr b hx] at hw; cases hw
theorem frS_none (fr : List V) (n : Nat) : frS ops v (fun _ => false) fr n = fr := by
  induction n with
  | zero => rfl
  | succ n ih => simp only [frS, Bool.false_eq_true, if_false, ih]; split <;> rfl
theorem frS_all {S : Nat → Bool} (fr : List V) (n : Nat) (hS : ∀ j, j < n → S j = true) : frS ops v S fr n = frS ops v (fun _ => true) fr n := by
  induction n with
  | zero => rfl
  | succ n ih => simp only [frS, ih fun j hj => hS j (by omega), hS n (by omega)]
theorem G_all (hN : Named P) (hcall : CallOK P call) (tr : Tr P md call cfg ops N x F H v) (hle : N ≤ ops.size) {k : Nat} (hk : k ≤ N) (hno : ∀ j (hj : j < ops.size), k ≤ j → j < N → isCall ops[j] = false) : G H N x k = H N :=
  Hx_self tr hle (Nat.le_refl N) hk fun b hb => tr.xsame hN hcall hle hk (Nat.le_refl _) (Nat.lt_of_lt_of_le (tr.xlt b hb) (tr.len hle (Nat.zero_le _) hk)) hno
theorem jh_start (hN : Named P) (hcall : CallOK P call) (tr : Tr P md call cfg ops N x F H v) (hle : N ≤ ops.size) {m : Mu} {w : World} {a : Act} (r : Rel m (H 0) w) (fR : FR m (H 0) w (F 0) a) :
    ∃ m', JH ops N x F H v m w (fun _ => false) a { w with drawn := w.drawn + 1 } m' 0 := by
  generalize hw1 : ({ w with drawn := w.drawn + 1 } : World) = w1
  have hh : w1.heap = w.heap := by rw [← hw1]
  have ho : w1.os = w.os := by rw [← hw1]
  have ht : w1.tape = w.tape := by rw [← hw1]
  have hu : w1.output = w.output := by rw [← hw1]
  have r1 : Rel m (H 0) w1 := rel_heap r hh ho ht hu
  have e1 : Evo m (H 0) w m (H 0) w1 := evo_heap hh ho ht hu
  have hgt : (G H N x 0).take (H 0).length = H 0 := by
    rw [G_take hN hcall tr hle (Nat.zero_le _) (Nat.zero_le _), Hx_self tr hle (Nat.zero_le _) (Nat.zero_le _) fun _ _ => rfl]
  have hgl : (G H N x 0).length = (H N).length := G_length 0
  have h0N := tr.len hle (Nat.zero_le N) (Nat.le_refl N)
  have hget : ∀ b, b < (H 0).length → (G H N x 0)[b]? = (H 0)[b]? := by
    intro b hb
    have : ((G H N x 0).take (H 0).length)[b]? = (H 0)[b]? := by rw [hgt]
    rwa [List.getElem?_take, if_pos hb] at this
  have hlv : ∀ b, b < (H 0).length → (live (G H N x 0) b ↔ live (H 0) b) := fun b hb => by simp only [live, hget b hb]
  generalize hm1 : (⟨fun b => if b < (H 0).length then m b else none, m.z⟩ : Mu) = m1
  have hmz : m1.z = m.z := by rw [← hm1]
  have hmb : ∀ b c, m1 b = some c → b < (H 0).length ∧ m b = some c := by
    intro b c hbc
    rw [← hm1] at hbc
    simp only at hbc
    split at hbc
    · rename_i hlt; exact ⟨hlt, hbc⟩
    · cases hbc
  have hml : ∀ b, b < (H 0).length → m1 b = m b := fun b hb => by rw [← hm1]; simp [hb]
  have hR : ∀ {y : V} {z : Value}, R m (H 0) w1 y z → R m1 (G H N x 0) w1 y z := by
    intro y z hyz
    have hz : m.z = (Mu.cut ⟨fun _ => none, m.z⟩ (G H N x 0) (H 0).length).z := by
      funext b
      simp [Mu.cut]
    have := R.glue (m := ⟨fun _ => none, m.z⟩) (g := G H N x 0) (m' := m) (g' := G H N x 0) (w' := w1) (n := (H 0).length) (n' := (H 0).length) hz (Nat.le_refl _) (fun _ _ => rfl) (by omega) (x := y) (v := z) (by rw [hgt]; exact hyz)
    have hge : Mu.glue ⟨fun _ => none, m.z⟩ m (H 0).length = m1 := by rw [← hm1]; rfl
    rwa [hge] at this
  refine ⟨m1, Nat.zero_le _, fun i _ _ _ => by simp, fun _ _ => rfl, ?_, ?_, ?_, fun b c hl hm => .inl (hmb b c hm).1, fun b c cs hc hm j hj hbj e he => ?_, fun i h => by cases h⟩
  · refine ⟨hmz, by omega, fun b hb hl => ⟨(hlv b hb).1 hl, hml b hb⟩, fun b c hl hc => ?_, e1.frame, e1.size, e1.rs, ho, ht, hu⟩
    obtain ⟨h1, h2⟩ := hmb b c hc
    exact .inl ⟨b, (hlv b h1).1 hl, h2⟩
  · refine ⟨fun b c hl hc => ?_, fun b hb => r1.zl b (by rw [← hmz]; exact hb), fun b b' c hl hl' hc hc' => ?_, fun b cs c hcs hc => ?_⟩
    · obtain ⟨h1, h2⟩ := hmb b c hc
      rw [hmz]
      exact r1.zo b c ((hlv b h1).1 hl) h2
    · obtain ⟨h1, h2⟩ := hmb b c hc
      obtain ⟨h3, h4⟩ := hmb b' c hc'
      exact r1.inj b b' c ((hlv b h1).1 hl) ((hlv b' h3).1 hl') h2 h4
    · obtain ⟨h1, h2⟩ := hmb b c hc
      rw [hget b h1] at hcs
      exact (r1.blk b cs c hcs h2).carry rfl fun d z _ hrz => hR hrz
  · rw [frS_none]
    exact ⟨fR.len, fun s y z hy hz => hR ((fR.slot s y z hy hz).evo e1 r.lt), fR.defers⟩
  · obtain ⟨h1, h2⟩ := hmb b c hm
    rw [hget b h1] at hc
    exact ((r1.blk b cs c hc h2).bel he).mono (tr.len hle (Nat.zero_le j) hj)
theorem jh_float {m0 : Mu} {w0 : World} (st : Static P ops N) (hN : Named P) (hcall : CallOK P call) (tr : Tr P md call cfg ops N x F H v) (hF0 : ∀ (s : Nat) (c : V), (F 0)[s]? = some c → Bel (H 0).length c) {S : Nat → Bool} {a : Act} {w : World} {m : Mu} {k : Nat}
    (J : JH ops N x F H v m0 w0 S a w m k) (hcl : Closed ops S) {i : Nat} {o : Oper} (hi : i < N) (ho : ops[i]? = some o) (hS : S i = false) (hr : Ready S o) (hfl : floats P o = true) :
    ∃ u, Blind P ops o a u ∧ ∃ m' k', JH ops N x F H v m0 w0 (addTo S i) (a.put o.dst u) w m' k' := by
  have hle := st.le
  have hslot : ∀ s ∈ o.looksAt ops, (frS ops v S (F 0) N)[s]? = (F i)[s]? := fun s hs => slot_eq st tr hcl hi ho hS hr hs
  have hgl : ∀ q, (G H N x q).length = (H N).length := G_length
  have hiN := tr.len hle (by omega : i ≤ N) (Nat.le_refl N)
  obtain ⟨hFs, hkind⟩ := tr.step i o hi ho
  have hwd : ∀ b, wantd ops (F i) o = some b → Region.wanted o (yielded ops a.tmps) = b := fun b hb => wantd_ok J.fR (by rw [wantd_congr hslot]; exact hb)
  have hbelslot : ∀ s ∈ o.looksAt ops, ∀ c, (F i)[s]? = some c → Bel (H i).length c := by
    intro s hs
    refine slot_bel tr hle (hF0 s) i (by omega) fun j oj hj hoj hd => ?_
    have hSj : S j = true := by
      rcases st.head j i oj o hj hi hoj ho with h | ⟨h, _⟩
      · exact ord_listed st.back hcl i o ho hr h
      · exact absurd hs ((Oper.apart_spec h).1 s hd)
    exact J.vb j hSj (by omega)
  have hrelcut : Rel (m.cut (G H N x k) (H i).length) ((G H N x k).take (H i).length) w := J.rel.cut (by rw [hgl]; exact hiN) fun b cs c hb hc hm e he => J.bel b c cs hc hm i (by omega) hb e he
  have hfrcut : FR (m.cut (G H N x k) (H i).length) ((G H N x k).take (H i).length) w (onlyAt (o.looksAt ops) (frS ops v S (F 0) N)) a := by
    refine ⟨by rw [onlyAt_length]; exact J.fR.len, fun s y z hy hz => ?_, J.fR.defers⟩
    by_cases hs : s ∈ o.looksAt ops
    · rw [onlyAt_in hs] at hy
      exact (J.fR.slot s y z hy hz).cut (by rw [hgl]; exact hiN) (hbelslot s hs y (by rw [← hslot s hs]; exact hy))
    · rw [onlyAt_out hs hy]; exact .any _
  have hcong : ∀ s ∈ o.looksAt ops, (F i)[s]? = (onlyAt (o.looksAt ops) (frS ops v S (F 0) N))[s]? := fun s hs => by rw [onlyAt_in hs, hslot s hs]
  have hnc : isCall o = false := by
    unfold floats at hfl
    unfold isCall
    split at hfl <;> rename_i hop <;> first
      | (rw [hop]; done)
      | (split at hfl <;> first | (rw [hop]; done) | (cases hfl; done))
      | (cases hfl; done)
  -- what it leaves, and the step
  have fin : ∀ u, H (i + 1) = H i → R (m.cut (G H N x k) (H i).length) ((G H N x k).take (H i).length) w (v i) u → ∃ m' k', JH ops N x F H v m0 w0 (addTo S i) (a.put o.dst u) w m' k' := by
    intro u hH hru
    refine ⟨_, k, jh_new st hN hcall tr J hcl hi ho hS J.kle (call_other J.kcall ho hnc) (m' := m.cut (G H N x k) (H i).length) (w' := w) (u := u) (by rw [hH]; exact .refl _ _ _) (by rw [hH]; exact hrelcut) (by rw [hH]; exact hru) ?_⟩
    intro b c cs hb _ hc hm j hj hbj e he
    exact J.bel b c cs hc (by simpa [Mu.cut, hb] using hm) j hj hbj e he
  rcases hkind with ⟨hw, hv, hH⟩ | ⟨hw, hic, hh, hop, hrd⟩ | ⟨hw, hic, _⟩
  · exact ⟨undef, .inr ⟨hwd false hw, rfl⟩, fin undef hH (by rw [hv]; exact .no)⟩
  · obtain ⟨hH, _⟩ := float_heap hfl hop
    have hop2 : opV P cfg (onlyAt (o.looksAt ops) (frS ops v S (F 0) N)) (H i) o.op = some (v i, H (i + 1)) := by
      have h1 : opEv P md call cfg (F i) (H i) o.op = some (v i, H (i + 1)) := by rw [opEv_nocall hnc]; exact hop
      rw [opEv_congr (ev_congr hcong), opEv_nocall hnc] at h1
      exact h1
    obtain ⟨u, hu, hru⟩ := float_ok hfl hop2 hfrcut
    exact ⟨u, .inl ⟨hwd true hw, hu⟩, fin u hH hru⟩
  · rw [hnc] at hic; cases hic
theorem step_float {m0 : Mu} {h0 : Heap} {w0 : World} {o : Oper} (hfl : floats P o = true) {fr fr2 : List V} {h h2 : Heap} (hst : stepOp P md call cfg ops o fr h = some (fr2, h2)) {a : Act} {w : World} (k : After m0 h0 w0 fr h a w) :
    ∃ u, Blind P ops o a u ∧ After m0 h0 w0 fr2 h2 (a.put o.dst u) w := by
  obtain ⟨m, e, r, f⟩ := k
  have hnc : isCall o = false := by
    unfold floats at hfl
    unfold isCall
    split at hfl <;> rename_i hop <;> first
      | (rw [hop]; done)
      | (split at hfl <;> first | (rw [hop]; done) | (cases hfl; done))
      | (cases hfl; done)
  unfold stepOp at hst
  split at hst
  · rename_i hw
    rw [opEv_nocall hnc] at hst
    split at hst
    · rename_i y h1 hop
      simp only [Option.some.injEq, Prod.mk.injEq] at hst
      obtain ⟨rfl, rfl⟩ := hst
      obtain ⟨rfl, _⟩ := float_heap hfl hop
      obtain ⟨u, hu, hru⟩ := float_ok hfl hop f
      exact ⟨u, .inl ⟨wantd_ok f hw, hu⟩, m, e, r, f.put hru o.dst⟩
    · cases hst
  · rename_i hw
    simp only [Option.some.injEq, Prod.mk.injEq] at hst
    obtain ⟨rfl, rfl⟩ := hst
    exact ⟨undef, .inr ⟨wantd_ok f hw, rfl⟩, m, e, r, f.put .no o.dst⟩
  · cases hst
theorem drawR_ok (hm : P.follows .mixedOrders = true) (hN : Named P) (hcall : CallOK P call) : DrawOK P (drawR P md call) := by
  intro cfg ops fr h fr' h' hd
  unfold drawR at hd
  simp only at hd
  split at hd
  · rename_i hok
    split at hd
    · rename_i fr1 h1 x ld hrun
      split at hd
      · rename_i hld
        have st := static_of_ok hok
        generalize headLen (floatMask P 0 ops.toList) (befs [] ops.toList) ops.size = N at st hrun hd
        obtain ⟨F, H, v, hF0, hH0, hFN, hHN, tr⟩ := tr_of_run hN hcall st.le hrun hld
        subst hF0 hH0 hFN hHN
        obtain ⟨hs2, _⟩ := runOps_ok hN hcall _ hd
        refine ⟨(tr_HS hN hcall tr st.le N (Nat.le_refl _)).trans hs2, fun m w a id r fR Q hQ => ?_⟩
        have hF0b : ∀ (s : Nat) (c : V), (F 0)[s]? = some c → Bel (H 0).length c := by
          intro s c hc
          have hlt : s < a.tmps.size := by rw [← fR.len]; exact (List.getElem?_eq_some_iff.1 hc).1
          exact (fR.slot s c _ hc (Array.getElem?_eq_getElem hlt)).bel
        -- all of the first ones have been carried out
        have done : ∀ (S : Nat → Bool) (a' : Act) (w' : World) (m' : Mu) (k : Nat), JH ops N x F H v m w S a' w' m' k → (∀ j, j < N → S j = true) → After m (H 0) w (F N) (H N) a' w' := by
          intro S a' w' m' k J hall
          have hG : G H N x k = H N := G_all hN hcall tr st.le J.kle fun j hj hkj hjN => by
            cases hc : isCall ops[j] with
            | false => rfl
            | true => have := (J.kcall j hj hjN hc).1 (hall j hjN); omega
          have hf : frS ops v S (F 0) N = F N := by rw [frS_all (F 0) N hall, ← F_frS tr st.le (Nat.le_refl N)]
          exact ⟨m', by rw [← hG]; exact J.evo, by rw [← hG]; exact J.rel, by rw [← hG, ← hf]; exact J.fR⟩
        let J : (Nat → Bool) → Act → World → Prop := fun S a' w' => (∃ m' k, JH ops N x F H v m w S a' w' m' k) ∨
          ∃ t frt ht, N < t ∧ t ≤ ops.size ∧ (∀ i, i < ops.size → (S i = true ↔ i < t)) ∧ After m (H 0) w frt ht a' w' ∧ runOps P md call cfg ops (ops.toList.drop t) frt ht = some (fr', h')
        obtain ⟨m1, hstart⟩ := jh_start hN hcall tr st.le r fR
        -- one of the last ones
        have unroll : ∀ (t : Nat) (o : Oper) (frt : List V) (ht : Heap), ops[t]? = some o → runOps P md call cfg ops (ops.toList.drop t) frt ht = some (fr', h') →
            ∃ fr2 h2, stepOp P md call cfg ops o frt ht = some (fr2, h2) ∧ runOps P md call cfg ops (ops.toList.drop (t + 1)) fr2 h2 = some (fr', h') := by
          intro t o frt ht hto hrt
          have htl : t < ops.toList.length := by simpa using (Array.getElem?_eq_some_iff.1 hto).1
          have hte : ops.toList[t] = o := by simpa using (Array.getElem?_eq_some_iff.1 hto).2
          rw [List.drop_eq_getElem_cons htl, hte] at hrt
          simp only [runOps] at hrt
          split at hrt
          · rename_i fr2 h2 hst
            exact ⟨fr2, h2, hst, hrt⟩
          · cases hrt
        have grow : ∀ (S : Nat → Bool) (t : Nat), (∀ i, i < ops.size → (S i = true ↔ i < t)) → ∀ i, i < ops.size → (addTo S t i = true ↔ i < t + 1) := by
          intro S t hSt i hi
          by_cases hit : i = t
          · subst hit; simp [addTo_self]
          · rw [addTo_ne hit, hSt i hi]; omega
        -- where one of the last ones stands when it comes up
        have place : ∀ (S : Nat → Bool) (a' : Act) (w' : World), J S a' w' → ∀ (i : Nat) (o : Oper), N ≤ i → ops[i]? = some o → S i = false → (∀ p, p < i → S p = true) →
            (∀ j, j < ops.size → (S j = true ↔ j < i)) ∧ ∃ frt ht, After m (H 0) w frt ht a' w' ∧ runOps P md call cfg ops (ops.toList.drop i) frt ht = some (fr', h') := by
          intro S a' w' hJ i o hiN ho hS hall
          have hio : i < ops.size := (Array.getElem?_eq_some_iff.1 ho).1
          rcases hJ with ⟨m', k, JJ⟩ | ⟨t, frt, ht, hNt, htn, hSt, haft, hrt⟩
          · have hiN' : i = N := by
              rcases Nat.lt_or_ge N i with h | h
              · have h1 := hall N h
                rw [JJ.tail N (Nat.le_refl _)] at h1; cases h1
              · omega
            subst hiN'
            refine ⟨fun j hj => ⟨fun h => ?_, fun h => hall j h⟩, _, _, done S a' w' m' k JJ hall, hd⟩
            rcases Nat.lt_or_ge j i with h2 | h2
            · exact h2
            · rw [JJ.tail j h2] at h; cases h
          · have hit : i = t := by
              have h1 : ¬ i < t := fun h => by have := (hSt i hio).2 h; rw [hS] at this; cases this
              rcases Nat.lt_or_ge t i with h | h
              · have := (hSt t (by omega)).1 (hall t h); omega
              · omega
            subst hit
            exact ⟨hSt, frt, ht, haft, hrt⟩
        have early : ∀ (S : Nat → Bool) (a' : Act) (w' : World), J S a' w' → ∀ i, i < N → S i = false → ∃ m' k, JH ops N x F H v m w S a' w' m' k := by
          intro S a' w' hJ i hiN hS
          rcases hJ with h | ⟨t, frt, ht, hNt, htn, hSt, haft, hrt⟩
          · exact h
          · have := (hSt i (by omega)).2 (by omega)
            rw [hS] at this; cases this
        refine region_of_float hm st J ?_ ?_ ?_ (.inl ⟨m1, 0, hstart⟩)
        · intro S a' w' hJ hcl i o ho hS hr hfl hmin
          have hio : i < ops.size := (Array.getElem?_eq_some_iff.1 ho).1
          rcases Nat.lt_or_ge i N with hiN | hiN
          · obtain ⟨m', k, JJ⟩ := early S a' w' hJ i hiN hS
            obtain ⟨u, hb, h⟩ := jh_float st hN hcall tr hF0b JJ hcl hiN ho hS hr hfl
            exact ⟨u, hb, .inl h⟩
          · obtain ⟨hSt, frt, ht, haft, hrt⟩ := place S a' w' hJ i o hiN ho hS (below_done st hcl hiN ho hr hmin)
            obtain ⟨fr2, h2, hst, hrt2⟩ := unroll i o frt ht ho hrt
            obtain ⟨u, hb, haft2⟩ := step_float hfl hst haft
            exact ⟨u, hb, .inr ⟨i + 1, fr2, h2, by omega, by omega, grow S i hSt, haft2, hrt2⟩⟩
        · intro S a' w' hJ hcl hsat i o ho hS hr
          have hio : i < ops.size := (Array.getElem?_eq_some_iff.1 ho).1
          rcases Nat.lt_or_ge i N with hiN | hiN
          · obtain ⟨m', k, JJ⟩ := early S a' w' hJ i hiN hS
            exact wpOp_mono (fun a2 w2 h => .inl h) (jh_step st hN hcall tr hF0b JJ hcl hiN ho hS hr (only Q))
          · obtain ⟨hSt, frt, ht, ⟨m', e', r', f'⟩, hrt⟩ := place S a' w' hJ i o hiN ho hS (below_done st hcl hiN ho hr fun p q _ => hsat p q)
            obtain ⟨fr2, h2, hst, hrt2⟩ := unroll i o frt ht ho hrt
            obtain ⟨_, hw2⟩ := stepOp_ok hN hcall hst
            unfold wpOp
            rw [ho]
            simp only
            exact hw2 m' w' a' r' f' _ (only Q) fun a2 w2 k2 => .inr ⟨i + 1, fr2, h2, by omega, by omega, grow S i hSt, k2.trans e', hrt2⟩
        · intro S a' w' hJ hall
          rcases hJ with ⟨m', k, JJ⟩ | ⟨t, frt, ht, hNt, htn, hSt, haft, hrt⟩
          · have hNn : N = ops.size := by
              rcases Nat.lt_or_ge N ops.size with h | h
              · have := hall N h
                rw [JJ.tail N (Nat.le_refl _)] at this; cases this
              · have := st.le; omega
            have hfin := done S a' w' m' k JJ fun j hj => hall j (by omega)
            rw [List.drop_of_length_le (by simp; omega)] at hd
            simp only [runOps, Option.some.injEq, Prod.mk.injEq] at hd
            obtain ⟨h1, h2⟩ := hd
            rw [← h1, ← h2] at hQ
            exact hQ a' w' hfin
          · have htn' : t = ops.size := by
              rcases Nat.lt_or_ge t ops.size with h | h
              · have := (hSt t h).1 (hall t h); omega
              · omega
            rw [List.drop_of_length_le (by simp; omega)] at hrt
            simp only [runOps, Option.some.injEq, Prod.mk.injEq] at hrt
            obtain ⟨h1, h2⟩ := hrt
            rw [← h1, ← h2] at hQ
            exact hQ a' w' haft
      · cases hd
    · cases hd
  · cases hd
end
end Go.Ab
namespace Go.Ab
open Go.RowKit (Below)
abbrev Prim := Cfg → List V → Heap → Option (V × Heap)
def callN (P : Program) (md : FuncId → Nat) (prim : FuncId → Option Prim) (n : Nat) : Nat → Callf
  | 0 => fun _ _ _ _ => none
  | d + 1 => fun cfg f args h => match prim f with
    | some p => p cfg args h
    | none => match P.funcs[f]? with
      | none => none
      | some fn => fnEv P md (callN P md prim n d) (drawR P md (callN P md prim n d)) n cfg fn args h
def PrimOK (P : Program) (f : FuncId) (p : Prim) : Prop := ∀ cfg args h r h', p cfg args h = some (r, h') → HS cfg h h' ∧ (∃ fn, P.funcs[f]? = some fn ∧ fn.body.isNone = false) ∧
  ∀ m w vs, Rel m h w → PW m h w args vs → Calls P f vs w fun e w' => ∃ v, e = .returned v ∧ Out m h w r h' v w'
section
variable {P : Program} {md : FuncId → Nat} {prim : FuncId → Option Prim} {n : Nat}
theorem callN_ok (hm : P.follows .mixedOrders = true) (hN : Named P) (hp : ∀ f p, prim f = some p → PrimOK P f p) : ∀ d, CallOK P (callN P md prim n d)
  | 0 => fun cfg f args h r h' hx => by simp [callN] at hx
  | d + 1 => fun cfg f args h r h' hx => by
    have ih := callN_ok hm hN hp d
    simp only [callN] at hx
    split at hx
    · rename_i p hpf
      exact hp f p hpf cfg args h r h' hx
    · split at hx
      · cases hx
      · rename_i fn hf
        exact fnEv_ok hN ih (drawR_ok hm hN ih) hf hx
def noMu : Mu := ⟨fun _ => none, fun _ => False⟩
theorem rel_no (w : World) : Rel noMu [] w :=
  ⟨fun _ _ h _ => by obtain ⟨cs, hc⟩ := h; simp at hc, fun _ h => h.elim, fun _ _ _ h => by obtain ⟨cs, hc⟩ := h; simp at hc, fun _ _ _ h => by simp at h⟩
theorem law_calls (hm : P.follows .mixedOrders = true) (hN : Named P) (hp : ∀ f p, prim f = some p → PrimOK P f p) {d : Nat} {f : FuncId} {args : List V} {h' : Heap}
    (hx : callN P md prim n d ⟨0, none, 0⟩ f args [] = some (.bool true, h')) {w : World} {vs : Array Value} (hargs : PW noMu [] w args vs) :
    Calls P f vs w fun e w' => e = .returned (.bool true) ∧ Below w.heap.size w w' := by
  obtain ⟨_, _, hs⟩ := callN_ok (md := md) (n := n) hm hN hp d _ _ _ _ _ _ hx
  refine (hs noMu w vs (rel_no w) hargs).mono ?_
  rintro e w' ⟨v, rfl, m', ev, _, hr⟩
  cases hr
  exact ⟨rfl, ev.os, ev.tape, ev.output, ev.size, fun b hb => ev.frame b hb fun x hx => by obtain ⟨cs, hc⟩ := hx; simp at hc⟩
end
end Go.Ab
namespace Go.Ab
abbrev Kont := Ex → List V → Heap → Prop
def slot {α : Type} (l : List α) (t : Nat) : Option α := l[t]?
def setS (l : List V) (d : Nat) (v : V) : List V := l.set d v
@[simp] theorem slot_zero {α : Type} {a : α} {l : List α} : slot (a :: l) 0 = some a := rfl
@[simp] theorem slot_succ {α : Type} {a : α} {l : List α} {t : Nat} : slot (a :: l) (t + 1) = slot l t := by simp [slot]
@[simp] theorem slot_nil {α : Type} {t : Nat} : slot ([] : List α) t = none := rfl
@[simp] theorem setS_zero {a v : V} {l : List V} : setS (a :: l) 0 v = v :: l := rfl
@[simp] theorem setS_succ {a v : V} {l : List V} {t : Nat} : setS (a :: l) (t + 1) v = a :: setS l t v := rfl
class Hid (α : Type) where
  val : α
abbrev KontO := List V → Heap → Prop
section
variable (P : Program) (md : FuncId → Nat) (call : Callf) (cfg : Cfg) (n : Nat)
def wC [c : Hid Code] (fr : List V) (h : Heap) [Q : Hid Kont] : Prop := ∃ st, code P md call (drawR P md call) cfg n c.val fr h = some st ∧ Q.val st.1 st.2.1 st.2.2
def wO [ops : Hid (Array Oper)] [l : Hid (List Oper)] (fr : List V) (h : Heap) [Q : Hid KontO] : Prop := ∃ st, runOps P md call cfg ops.val l.val fr h = some st ∧ Q.val st.1 st.2
def wS [dst : Hid (Option Tmp)] [fr : Hid (List V)] (r : Option (V × Heap)) [ops : Hid (Array Oper)] [l : Hid (List Oper)] [Q : Hid KontO] : Prop :=
  ∃ x, r = some x ∧ @wO P md call cfg ops l (put fr.val dst.val x.1) x.2 Q
def wIf (b : Bool) [A : Hid Prop] [B : Hid Prop] : Prop := if b = true then A.val else B.val
def gdOf (ops : Array Oper) (fr : List V) (j : Nat) : Option V :=
  match ops[j]? with
  | some p => match p.dst with
    | some d => fr[d]?
    | none => none
  | none => none
def wG (g : Option V) [want : Hid Bool] [dst : Hid (Option Tmp)] [op : Hid Op] [ops : Hid (Array Oper)] [l : Hid (List Oper)] [fr : Hid (List V)] [h : Hid Heap] [Q : Hid KontO] : Prop :=
  match g with
  | some (.bool b) => @wIf (b == want.val) ⟨@wS P md call cfg dst fr (opEv P md call cfg fr.val h.val op.val) ops l Q⟩ ⟨@wO P md call cfg ops l (put fr.val dst.val .no) h.val Q⟩
  | some .no => @wO P md call cfg ops l (put fr.val dst.val .no) h.val Q
  | _ => False
def wB (c : Option V) [t : Hid Code] [e : Hid Code] [fr : Hid (List V)] [h : Hid Heap] [Q : Hid Kont] : Prop :=
  match c with
  | some (.bool b) => @wIf b ⟨@wC P md call cfg n t fr.val h.val Q⟩ ⟨@wC P md call cfg n e fr.val h.val Q⟩
  | _ => False
def kSeq [b : Hid Code] [Q : Hid Kont] (e : Ex) (fr : List V) (h : Heap) : Prop :=
  match e with
  | .normal => @wC P md call cfg n b fr h Q
  | e => Q.val e fr h
def kBlock [id : Hid Nat] [Q : Hid Kont] (e : Ex) (fr : List V) (h : Heap) : Prop :=
  match e with
  | .exit i => Q.val (if i = id.val then .normal else .exit i) fr h
  | e => Q.val e fr h
def Rnd [I : Hid (Nat → List V → Heap → Prop)] [m : Hid Nat] (fr : List V) (h : Heap) : Prop := ∃ m', m' < m.val ∧ I.val m' fr h
def kLoop [I : Hid (Nat → List V → Heap → Prop)] [m : Hid Nat] [Q : Hid Kont] (e : Ex) (fr : List V) (h : Heap) : Prop :=
  match e with
  | .normal => @Rnd I m fr h
  | e => Q.val e fr h
end
section
variable {P : Program} {md : FuncId → Nat} {call : Callf} {cfg : Cfg} {n : Nat}
@[simp] theorem wIf_true {A B : Prop} : @wIf true ⟨A⟩ ⟨B⟩ ↔ A := by simp [wIf]
@[simp] theorem wIf_false {A B : Prop} : @wIf false ⟨A⟩ ⟨B⟩ ↔ B := by simp [wIf]
theorem wIf_intro {b : Bool} {A B : Prop} (ha : b = true → A) (hb : b = false → B) : @wIf b ⟨A⟩ ⟨B⟩ := by cases b <;> simp_all
@[simp] theorem kSeq_normal {b : Code} {Q : Kont} {fr : List V} {h : Heap} : @kSeq P md call cfg n ⟨b⟩ ⟨Q⟩ .normal fr h ↔ @wC P md call cfg n ⟨b⟩ fr h ⟨Q⟩ := Iff.rfl
@[simp] theorem kSeq_exit {b : Code} {Q : Kont} {i : Nat} {fr : List V} {h : Heap} : @kSeq P md call cfg n ⟨b⟩ ⟨Q⟩ (.exit i) fr h ↔ Q (.exit i) fr h := Iff.rfl
@[simp] theorem kSeq_ret {b : Code} {Q : Kont} {fr : List V} {h : Heap} : @kSeq P md call cfg n ⟨b⟩ ⟨Q⟩ .ret fr h ↔ Q .ret fr h := Iff.rfl
@[simp] theorem kBlock_normal {id : Nat} {Q : Kont} {fr : List V} {h : Heap} : @kBlock ⟨id⟩ ⟨Q⟩ .normal fr h ↔ Q .normal fr h := Iff.rfl
@[simp] theorem kBlock_exit {id i : Nat} {Q : Kont} {fr : List V} {h : Heap} : @kBlock ⟨id⟩ ⟨Q⟩ (.exit i) fr h ↔ Q (if i = id then .normal else .exit i) fr h := Iff.rfl
@[simp] theorem kBlock_ret {id : Nat} {Q : Kont} {fr : List V} {h : Heap} : @kBlock ⟨id⟩ ⟨Q⟩ .ret fr h ↔ Q .ret fr h := Iff.rfl
@[simp] theorem kLoop_normal {I : Nat → List V → Heap → Prop} {m : Nat} {Q : Kont} {fr : List V} {h : Heap} : @kLoop ⟨I⟩ ⟨m⟩ ⟨Q⟩ .normal fr h ↔ @Rnd ⟨I⟩ ⟨m⟩ fr h := Iff.rfl
theorem Rnd_of {I : Nat → List V → Heap → Prop} {m : Nat} {fr : List V} {h : Heap} {m' : Nat} (h1 : m' < m) (h2 : I m' fr h) : @Rnd ⟨I⟩ ⟨m⟩ fr h := ⟨m', h1, h2⟩
@[simp] theorem kLoop_exit {I : Nat → List V → Heap → Prop} {m : Nat} {Q : Kont} {i : Nat} {fr : List V} {h : Heap} : @kLoop ⟨I⟩ ⟨m⟩ ⟨Q⟩ (.exit i) fr h ↔ Q (.exit i) fr h := Iff.rfl
@[simp] theorem kLoop_ret {I : Nat → List V → Heap → Prop} {m : Nat} {Q : Kont} {fr : List V} {h : Heap} : @kLoop ⟨I⟩ ⟨m⟩ ⟨Q⟩ .ret fr h ↔ Q .ret fr h := Iff.rfl
@[simp] theorem wC_skip {fr : List V} {h : Heap} {Q : Kont} : @wC P md call cfg n ⟨.skip⟩ fr h ⟨Q⟩ ↔ Q .normal fr h := by simp [wC, code]
@[simp] theorem wC_exit {id : Nat} {fr : List V} {h : Heap} {Q : Kont} : @wC P md call cfg n ⟨.exit id⟩ fr h ⟨Q⟩ ↔ Q (.exit id) fr h := by simp [wC, code]
@[simp] theorem wC_ret {fr : List V} {h : Heap} {Q : Kont} : @wC P md call cfg n ⟨.ret⟩ fr h ⟨Q⟩ ↔ Q .ret fr h := by simp [wC, code]
@[simp] theorem wC_seq {a b : Code} {fr : List V} {h : Heap} {Q : Kont} : @wC P md call cfg n ⟨.seq a b⟩ fr h ⟨Q⟩ ↔ @wC P md call cfg n ⟨a⟩ fr h ⟨@kSeq P md call cfg n ⟨b⟩ ⟨Q⟩⟩ := by
  unfold wC
  simp only [code]
  cases ha : code P md call (drawR P md call) cfg n a fr h with
  | none => simp
  | some st =>
    obtain ⟨e, fr', h'⟩ := st
    cases e <;> simp [kSeq, wC]
@[simp] theorem wC_block {id : Nat} {b : Code} {fr : List V} {h : Heap} {Q : Kont} : @wC P md call cfg n ⟨.block id b⟩ fr h ⟨Q⟩ ↔ @wC P md call cfg n ⟨b⟩ fr h ⟨@kBlock ⟨id⟩ ⟨Q⟩⟩ := by
  unfold wC
  simp only [code]
  cases ha : code P md call (drawR P md call) cfg n b fr h with
  | none => simp
  | some st =>
    obtain ⟨e, fr', h'⟩ := st
    cases e <;> simp [kBlock]
@[simp] theorem wC_cond {c : Operand} {t e : Code} {fr : List V} {h : Heap} {Q : Kont} : @wC P md call cfg n ⟨.cond c t e⟩ fr h ⟨Q⟩ ↔ @wB P md call cfg n (ev fr c) ⟨t⟩ ⟨e⟩ ⟨fr⟩ ⟨h⟩ ⟨Q⟩ := by
  unfold wC
  simp only [code, wB]
  split <;> rename_i hc
  · simp [wIf, wC, hc]
  · simp [wIf, wC, hc]
  · rename_i h1
    split
    · rename_i b hb
      cases b
      · exact absurd hb hc
      · exact absurd hb h1
    · simp
@[simp] theorem wB_bool {b : Bool} {t e : Code} {fr : List V} {h : Heap} {Q : Kont} : @wB P md call cfg n (some (.bool b)) ⟨t⟩ ⟨e⟩ ⟨fr⟩ ⟨h⟩ ⟨Q⟩ ↔ @wIf b ⟨@wC P md call cfg n ⟨t⟩ fr h ⟨Q⟩⟩ ⟨@wC P md call cfg n ⟨e⟩ fr h ⟨Q⟩⟩ := Iff.rfl
@[simp] theorem wC_region {id : Nat} {ops : Array Oper} {fr : List V} {h : Heap} {Q : Kont} : @wC P md call cfg n ⟨.region id ops false⟩ fr h ⟨Q⟩ ↔ @wO P md call cfg ⟨ops⟩ ⟨ops.toList⟩ fr h ⟨Q .normal⟩ := by
  unfold wC wO
  simp only [code]
  cases ha : runOps P md call cfg ops ops.toList fr h with
  | none => simp
  | some st => obtain ⟨fr', h'⟩ := st; simp
@[simp] theorem wO_list {ops : Array Oper} {l : List Oper} {fr : List V} {h : Heap} {Q : KontO} : @wO P md call cfg ⟨ops⟩ ⟨l.toArray.toList⟩ fr h ⟨Q⟩ ↔ @wO P md call cfg ⟨ops⟩ ⟨l⟩ fr h ⟨Q⟩ := Iff.rfl
@[simp] theorem wO_nil {ops : Array Oper} {fr : List V} {h : Heap} {Q : KontO} : @wO P md call cfg ⟨ops⟩ ⟨[]⟩ fr h ⟨Q⟩ ↔ Q fr h := by simp [wO, runOps]
@[simp] theorem wO_cons {ops : Array Oper} {dst : Option Tmp} {op : Op} {ty : TypeId} {pos : String} {after : Array Edge} {l : List Oper} {fr : List V} {h : Heap} {Q : KontO} :
    @wO P md call cfg ⟨ops⟩ ⟨{ dst := dst, op := op, type := ty, pos := pos, after := after, guard := none } :: l⟩ fr h ⟨Q⟩ ↔ @wS P md call cfg ⟨dst⟩ ⟨fr⟩ (opEv P md call cfg fr h op) ⟨ops⟩ ⟨l⟩ ⟨Q⟩ := by
  unfold wO wS
  simp only [runOps, stepOp, wantd]
  cases ha : opEv P md call cfg fr h op with
  | none => simp
  | some x => obtain ⟨v, h'⟩ := x; simp [wO]
@[simp] theorem wO_guard {ops : Array Oper} {dst : Option Tmp} {op : Op} {ty : TypeId} {pos : String} {after : Array Edge} {j : Nat} {want : Bool} {l : List Oper} {fr : List V} {h : Heap} {Q : KontO} :
    @wO P md call cfg ⟨ops⟩ ⟨{ dst := dst, op := op, type := ty, pos := pos, after := after, guard := some (j, want) } :: l⟩ fr h ⟨Q⟩ ↔ @wG P md call cfg (gdOf ops fr j) ⟨want⟩ ⟨dst⟩ ⟨op⟩ ⟨ops⟩ ⟨l⟩ ⟨fr⟩ ⟨h⟩ ⟨Q⟩ := by
  unfold wO wG gdOf
  simp only [runOps, stepOp, wantd]
  cases hj : ops[j]? with
  | none => simp
  | some p =>
    cases hd : p.dst with
    | none => simp [hd]
    | some d =>
      simp only [hd]
      cases hf : fr[d]? with
      | none => simp
      | some v =>
        cases v <;> simp only [reduceCtorEq, false_and, exists_false]
        · simp [wO]
        · rename_i b
          cases hbw : (b == want) <;> simp only [wIf, wS, wO, if_true, Bool.false_eq_true, if_false]
          cases ha : opEv P md call cfg fr h op with
          | none => simp
          | some x => obtain ⟨v, h'⟩ := x; simp
@[simp] theorem wG_bool {b want : Bool} {dst : Option Tmp} {op : Op} {ops : Array Oper} {l : List Oper} {fr : List V} {h : Heap} {Q : KontO} :
    @wG P md call cfg (some (.bool b)) ⟨want⟩ ⟨dst⟩ ⟨op⟩ ⟨ops⟩ ⟨l⟩ ⟨fr⟩ ⟨h⟩ ⟨Q⟩ ↔ @wIf (b == want) ⟨@wS P md call cfg ⟨dst⟩ ⟨fr⟩ (opEv P md call cfg fr h op) ⟨ops⟩ ⟨l⟩ ⟨Q⟩⟩ ⟨@wO P md call cfg ⟨ops⟩ ⟨l⟩ (put fr dst .no) h ⟨Q⟩⟩ := Iff.rfl
@[simp] theorem wG_no {want : Bool} {dst : Option Tmp} {op : Op} {ops : Array Oper} {l : List Oper} {fr : List V} {h : Heap} {Q : KontO} :
    @wG P md call cfg (some .no) ⟨want⟩ ⟨dst⟩ ⟨op⟩ ⟨ops⟩ ⟨l⟩ ⟨fr⟩ ⟨h⟩ ⟨Q⟩ ↔ @wO P md call cfg ⟨ops⟩ ⟨l⟩ (put fr dst .no) h ⟨Q⟩ := Iff.rfl
@[simp] theorem wS_some {dst : Option Tmp} {fr : List V} {v : V} {h : Heap} {ops : Array Oper} {l : List Oper} {Q : KontO} :
    @wS P md call cfg ⟨dst⟩ ⟨fr⟩ (some (v, h)) ⟨ops⟩ ⟨l⟩ ⟨Q⟩ ↔ @wO P md call cfg ⟨ops⟩ ⟨l⟩ (put fr dst v) h ⟨Q⟩ := by simp [wS]
@[simp] theorem put_none {fr : List V} {v : V} : put fr none v = fr := rfl
@[simp] theorem put_some {fr : List V} {d : Tmp} {v : V} : put fr (some d) v = setS fr d v := rfl
@[simp] theorem gdOf_mk {ops : Array Oper} {fr : List V} {j : Nat} : gdOf ops fr j = ((slot ops.toList j).bind (·.dst)).bind (slot fr ·) := by
  unfold gdOf
  simp only [slot, Array.getElem?_toList]
  cases h : ops[j]? with
  | none => simp
  | some p => cases hd : p.dst <;> simp [hd]
@[simp] theorem ev_tmp {fr : List V} {t : Tmp} : ev fr (.tmp t) = slot fr t := rfl
@[simp] theorem ev_func {fr : List V} {f : FuncId} : ev fr (.func f) = some (.func (.func f) [] []) := rfl
@[simp] theorem ev_int {fr : List V} {k : IntKind} {i : Int} : ev fr (.const (.int k i)) = some (.int k i) := rfl
@[simp] theorem ev_bool {fr : List V} {b : Bool} : ev fr (.const (.bool b)) = some (.bool b) := rfl
@[simp] theorem ev_str {fr : List V} {s : ByteArray} : ev fr (.const (.string s)) = some (.str s) := rfl
@[simp] theorem ev_nils {fr : List V} : ev fr (.const (.slice none 0 0)) = some .nils := rfl
@[simp] theorem ev_agg {fr : List V} {cs : Array Value} : ev fr (.const (.agg cs)) = (cs.toList.mapM ofLeaf).map .agg := rfl
@[simp] theorem evAll_nil {fr : List V} : evAll fr [] = some [] := rfl
@[simp] theorem evAll_cons {fr : List V} {x : Operand} {r : List Operand} : evAll fr (x :: r) = (ev fr x).bind fun v => (evAll fr r).map (v :: ·) := by
  simp only [evAll]
  cases ev fr x <;> simp
  cases evAll fr r <;> simp
@[simp] theorem opEv_move {fr : List V} {h : Heap} {x : Operand} : opEv P md call cfg fr h (.move x) = (ev fr x).map (·, h) := rfl
@[simp] theorem opEv_assign {fr : List V} {h : Heap} {x : Operand} : opEv P md call cfg fr h (.assign x) = (ev fr x).map (·, h) := rfl
def pickV (c a b : Option V) (h : Heap) : Option (V × Heap) :=
  match c with
  | some (.bool true) => a.map (·, h)
  | some (.bool false) => b.map (·, h)
  | _ => none
@[simp] theorem opEv_pick {fr : List V} {h : Heap} {c a b : Operand} : opEv P md call cfg fr h (.pick c a b) = pickV (ev fr c) (ev fr a) (ev fr b) h := rfl
@[simp] theorem pickV_true {a b : Option V} {h : Heap} : pickV (some (.bool true)) a b h = a.map (·, h) := rfl
@[simp] theorem pickV_false {a b : Option V} {h : Heap} : pickV (some (.bool false)) a b h = b.map (·, h) := rfl
@[simp] theorem pickV_and {x y : Bool} {h : Heap} : pickV (some (.bool x)) (some (.bool y)) (some (.bool false)) h = some (.bool (x && y), h) := by cases x <;> rfl
@[simp] theorem pickV_or {x y : Bool} {h : Heap} : pickV (some (.bool x)) (some (.bool true)) (some (.bool y)) h = some (.bool (x || y), h) := by cases x <;> rfl
@[simp] theorem opEv_alloc {fr : List V} {h : Heap} {t : TypeId} : opEv P md call cfg fr h (.alloc t) = (zeroOf P t).map fun z => (.ptr h.length 0, h ++ [some (vcells z)]) := by
  simp only [opEv, opV]; cases zeroOf P t <;> rfl
@[simp] theorem opEv_box {fr : List V} {h : Heap} {t : TypeId} {x : Operand} : opEv P md call cfg fr h (.box t x) = ((ev fr x).bind cellsOf).map fun cs => (.ptr h.length 0, h ++ [some cs]) := by
  simp only [opEv, opV]
  cases ev fr x with
  | none => rfl
  | some v => simp only [Option.bind_some]; cases cellsOf v <;> rfl
@[simp] theorem opEv_build {fr : List V} {h : Heap} {t : TypeId} {ps : Array (Nat × Operand)} : opEv P md call cfg fr h (.build t ps) = ((evParts fr ps.toList).bind (buildV P t)).map (·, h) := by
  simp only [opEv, opV]; cases evParts fr ps.toList <;> rfl
@[simp] theorem opEv_buildSlice {fr : List V} {h : Heap} {t : TypeId} {len : Nat} {ps : Array (Nat × Operand)} : opEv P md call cfg fr h (.buildSlice t len ps) = (partsInOrder fr 0 ps.toList).bind (buildSliceV P h t len) := by
  simp only [opEv, opV]; cases partsInOrder fr 0 ps.toList <;> rfl
@[simp] theorem opEv_load {fr : List V} {h : Heap} {t : TypeId} {a : Operand} : opEv P md call cfg fr h (.load t a) = ((ev fr a).bind (loadV P h t)).map (·, h) := by
  simp only [opEv, opV]; cases ev fr a <;> rfl
@[simp] theorem opEv_store {fr : List V} {h : Heap} {t : TypeId} {a x : Operand} : opEv P md call cfg fr h (.store t a x) = ((ev fr a).bind fun p => (ev fr x).bind fun v => storeV P cfg h t p v).map (.no, ·) := by
  simp only [opEv, opV]
  cases ev fr a with
  | none => rfl
  | some p => cases ev fr x with
    | none => rfl
    | some v => simp only [Option.bind_some]; cases storeV P cfg h t p v <;> rfl
@[simp] theorem opEv_nilCheck {fr : List V} {h : Heap} {x : Operand} : opEv P md call cfg fr h (.nilCheck x) = ((ev fr x).bind nilCheckV).map (·, h) := by
  simp only [opEv, opV]; cases ev fr x <;> rfl
@[simp] theorem opEv_binOp {fr : List V} {h : Heap} {op : BinOp} {t u : TypeId} {x y : Operand} : opEv P md call cfg fr h (.binOp op t x y u) = ((ev fr x).bind fun a => (ev fr y).bind fun b => binV P op t a b).map (·, h) := by
  simp only [opEv, opV]
  cases ev fr x with
  | none => rfl
  | some p => cases ev fr y with
    | none => rfl
    | some v => rfl
@[simp] theorem opEv_unOp {fr : List V} {h : Heap} {op : UnOp} {t : TypeId} {x : Operand} : opEv P md call cfg fr h (.unOp op t x) = ((ev fr x).bind (unV op)).map (·, h) := by
  simp only [opEv, opV]; cases ev fr x <;> rfl
@[simp] theorem opEv_convert {fr : List V} {h : Heap} {s d : TypeId} {x : Operand} : opEv P md call cfg fr h (.convert s d x) = (ev fr x).bind (convV P h s d) := by
  simp only [opEv, opV]; cases ev fr x <;> rfl
@[simp] theorem opEv_makeFunc {fr : List V} {h : Heap} {fn : Fn} {a c : Array Operand} : opEv P md call cfg fr h (.makeFunc fn a c) = (evAll fr a.toList).bind fun f => (evAll fr c.toList).map fun c => (.func fn f c, h) := by
  simp only [opEv, opV]
  cases evAll fr a.toList with
  | none => rfl
  | some p => cases evAll fr c.toList <;> rfl
@[simp] theorem opEv_makeSlice {fr : List V} {h : Heap} {t : TypeId} {l c : Operand} : opEv P md call cfg fr h (.makeSlice t l c) = (ev fr l).bind fun a => (ev fr c).bind fun b => makeSliceV P h t a b := by
  simp only [opEv, opV]
  cases ev fr l with
  | none => rfl
  | some p => cases ev fr c <;> rfl
@[simp] theorem opEv_slice {fr : List V} {h : Heap} {t : TypeId} {x : Operand} {lo hi : Option Operand} : opEv P md call cfg fr h (.slice t x lo hi none) = ((ev fr x).bind fun a => sliceV P h t a (lo.map (ev fr)) (hi.map (ev fr))).map (·, h) := by
  simp only [opEv, opV]; cases ev fr x <;> rfl
@[simp] theorem opEv_fieldAddr {fr : List V} {h : Heap} {s : TypeId} {x : Operand} {f : Nat} : opEv P md call cfg fr h (.fieldAddr s x f) = ((ev fr x).bind fun a => fieldAddrV P s a f).map (·, h) := by
  simp only [opEv, opV]; cases ev fr x <;> rfl
@[simp] theorem opEv_field {fr : List V} {h : Heap} {s : TypeId} {x : Operand} {f : Nat} : opEv P md call cfg fr h (.field s x f) = ((ev fr x).bind fun a => fieldV P s a f).map (·, h) := by
  simp only [opEv, opV]; cases ev fr x <;> rfl
@[simp] theorem opEv_indexAddr {fr : List V} {h : Heap} {t : TypeId} {x i : Operand} : opEv P md call cfg fr h (.indexAddr t x i) = ((ev fr x).bind fun a => (ev fr i).bind fun b => indexAddrV P t a b).map (·, h) := by
  simp only [opEv, opV]
  cases ev fr x with
  | none => rfl
  | some p => cases ev fr i <;> rfl
@[simp] theorem opEv_index {fr : List V} {h : Heap} {t : TypeId} {x i : Operand} : opEv P md call cfg fr h (.index t x i) = ((ev fr x).bind fun a => (ev fr i).bind fun b => indexV P t a b).map (·, h) := by
  simp only [opEv, opV]
  cases ev fr x with
  | none => rfl
  | some p => cases ev fr i <;> rfl
@[simp] theorem opEv_extract {fr : List V} {h : Heap} {x : Operand} {i : Nat} : opEv P md call cfg fr h (.extract x i) = ((ev fr x).bind fun a => extractV a i).map (·, h) := by
  simp only [opEv, opV]; cases ev fr x <;> rfl
def biV (P : Program) (cfg : Cfg) (h : Heap) (b : Builtin) (tys : List TypeId) (vs : List V) : Option (V × Heap) :=
  match b, tys, vs with
  | .len, [t], [x] => (lenV P t x).map (·, h)
  | .append, [t, u], [d, x] => appendV P cfg h t u d x
  | .min, _, vs => (minV vs).map (·, h)
  | .max, _, vs => (maxV vs).map (·, h)
  | .clear, [t], [x] => (clearV P cfg h t x).map (.tup [], ·)
  | _, _, _ => none
@[simp] theorem opEv_builtin {fr : List V} {h : Heap} {b : Builtin} {args : Array Operand} {tys : Array TypeId} : opEv P md call cfg fr h (.call { callee := .builtin b, args := args, argTypes := tys }) = (evAll fr args.toList).bind (biV P cfg h b tys.toList) := by
  simp only [opEv, opV]
  cases evAll fr args.toList with
  | none => rfl
  | some vs =>
    simp only [Option.bind_some, biV]
    generalize tys.toList = tl
    rcases tl with _ | ⟨t, _ | ⟨u, _ | ⟨_, _⟩⟩⟩ <;> rcases vs with _ | ⟨x, _ | ⟨y, _ | ⟨_, _⟩⟩⟩ <;> cases b <;> first | rfl | (simp only []; cases clearV P cfg h t x <;> rfl) | (simp only; cases clearV P cfg h t x <;> rfl)
@[simp] theorem biV_len {h : Heap} {t : TypeId} {x : V} : biV P cfg h .len [t] [x] = (lenV P t x).map (·, h) := rfl
@[simp] theorem biV_append {h : Heap} {t u : TypeId} {d x : V} : biV P cfg h .append [t, u] [d, x] = appendV P cfg h t u d x := rfl
@[simp] theorem biV_min {h : Heap} {ts : List TypeId} {vs : List V} : biV P cfg h .min ts vs = (minV vs).map (·, h) := by unfold biV; split <;> simp_all
@[simp] theorem biV_max {h : Heap} {ts : List TypeId} {vs : List V} : biV P cfg h .max ts vs = (maxV vs).map (·, h) := by unfold biV; split <;> simp_all
@[simp] theorem biV_clear {h : Heap} {t : TypeId} {x : V} : biV P cfg h .clear [t] [x] = (clearV P cfg h t x).map (.tup [], ·) := rfl
def callOf (md : FuncId → Nat) (call : Callf) (cfg : Cfg) (h : Heap) (f : Option V) (vs : Option (List V)) : Option (V × Heap) :=
  match f, vs with
  | some (.func (.func g) first captured), some vs => callM md call cfg g ((first ++ vs) ++ captured) h
  | _, _ => none
@[simp] theorem opEv_call {fr : List V} {h : Heap} {f : Operand} {args : Array Operand} {tys : Array TypeId} : opEv P md call cfg fr h (.call { callee := .value f, args := args, argTypes := tys }) = callOf md call cfg h (ev fr f) (evAll fr args.toList) := rfl
@[simp] theorem callOf_some {h : Heap} {g : FuncId} {first captured vs : List V} : callOf md call cfg h (some (.func (.func g) first captured)) (some vs) = callM md call cfg g ((first ++ vs) ++ captured) h := rfl
theorem wC_loop {body : Code} {fr : List V} {h : Heap} {Q : Kont} (I : Nat → List V → Heap → Prop) {m : Nat} (hm : m < n) (h0 : I m fr h)
    (step : ∀ m fr h, I m fr h → @wC P md call cfg n ⟨body⟩ fr h ⟨@kLoop ⟨I⟩ ⟨m⟩ ⟨Q⟩⟩) : @wC P md call cfg n ⟨.loop body⟩ fr h ⟨Q⟩ := by
  have key : ∀ k m fr h, m < k → I m fr h → ∃ st, iter (code P md call (drawR P md call) cfg n body) k fr h = some st ∧ Q st.1 st.2.1 st.2.2 := by
    intro k
    induction k with
    | zero => intro m fr h hm; omega
    | succ k ih =>
      intro m fr h hm hI
      obtain ⟨⟨e, fr', h'⟩, hst, hq⟩ := step m fr h hI
      replace hst : code P md call (drawR P md call) cfg n body fr h = some (e, fr', h') := hst
      simp only [iter, hst]
      cases e with
      | normal =>
        obtain ⟨m', hm', hI'⟩ := hq
        replace hm' : m' < m := hm'
        exact ih m' fr' h' (by omega) hI'
      | exit i => exact ⟨_, rfl, hq⟩
      | ret => exact ⟨_, rfl, hq⟩
  obtain ⟨st, h1, h2⟩ := key n m fr h hm h0
  exact ⟨st, by show code P md call (drawR P md call) cfg n (.loop body) fr h = some st; rw [code]; exact h1, h2⟩
theorem wC_mono {c : Code} {fr : List V} {h : Heap} {Q Q' : Kont} (hw : @wC P md call cfg n ⟨c⟩ fr h ⟨Q⟩) (hq : ∀ e fr h, Q e fr h → Q' e fr h) : @wC P md call cfg n ⟨c⟩ fr h ⟨Q'⟩ := by
  obtain ⟨st, h1, h2⟩ := hw
  exact ⟨st, h1, hq _ _ _ h2⟩
def look : List (Nat × V) → Nat → Option V
  | [], _ => none
  | (a, v) :: r, k => if a = k then some v else look r k
def fillL (l : List (Nat × V)) (j : Nat → V) : Nat → Nat → List V
  | 0, _ => []
  | c + 1, k => (look l k).getD (j k) :: fillL l j c (k + 1)
def AllS : List (Nat × V) → List V → Prop
  | [], _ => True
  | (k, v) :: r, fr => slot fr k = some v ∧ AllS r fr
def Slots (N : Nat) (l : List (Nat × V)) (fr : List V) : Prop := fr.length = N ∧ AllS l fr
@[simp] theorem AllS_nil {fr : List V} : AllS [] fr ↔ True := Iff.rfl
@[simp] theorem AllS_cons {k : Nat} {v : V} {r : List (Nat × V)} {fr : List V} : AllS ((k, v) :: r) fr ↔ slot fr k = some v ∧ AllS r fr := Iff.rfl
@[simp] theorem Slots_def {N : Nat} {l : List (Nat × V)} {fr : List V} : Slots N l fr ↔ fr.length = N ∧ AllS l fr := Iff.rfl
@[simp] theorem look_nil {k : Nat} : look [] k = none := rfl
@[simp] theorem look_cons {a k : Nat} {v : V} {r : List (Nat × V)} : look ((a, v) :: r) k = if a = k then some v else look r k := rfl
@[simp] theorem fillL_zero {l : List (Nat × V)} {j : Nat → V} {k : Nat} : fillL l j 0 k = [] := rfl
@[simp] theorem fillL_succ {l : List (Nat × V)} {j : Nat → V} {c k : Nat} : fillL l j (c + 1) k = (look l k).getD (j k) :: fillL l j c (k + 1) := rfl
theorem AllS_look {fr : List V} : ∀ {l : List (Nat × V)}, AllS l fr → ∀ k v, look l k = some v → fr[k]? = some v
  | [], _, k, v, h => by simp at h
  | (a, u) :: r, hs, k, v, h => by
    simp only [look_cons] at h
    split at h
    · rename_i hak; subst hak; cases h; exact hs.1
    · exact AllS_look hs.2 k v h
theorem fill_get (l : List (Nat × V)) (j : Nat → V) : ∀ (c k i : Nat), i < c → (fillL l j c k)[i]? = some ((look l (k + i)).getD (j (k + i)))
  | 0, _, _, h => by omega
  | c + 1, k, 0, _ => by simp
  | c + 1, k, i + 1, h => by
    simp only [fillL_succ, List.getElem?_cons_succ]
    rw [fill_get l j c (k + 1) i (by omega), show k + 1 + i = k + (i + 1) by omega]
theorem fill_len (l : List (Nat × V)) (j : Nat → V) : ∀ (c k : Nat), (fillL l j c k).length = c
  | 0, _ => rfl
  | c + 1, k => by simp [fill_len l j c]
theorem Slots.ex {N : Nat} {l : List (Nat × V)} {fr : List V} (hs : Slots N l fr) : ∃ j, fr = fillL l j N 0 := by
  obtain ⟨hl, ha⟩ := hs
  refine ⟨fun k => fr.getD k .no, List.ext_getElem? fun i => ?_⟩
  by_cases hi : i < N
  · rw [fill_get _ _ _ _ _ hi, Nat.zero_add]
    have hfi : fr[i]? = some fr[i] := List.getElem?_eq_getElem (by omega)
    cases hk : look l i with
    | none => simp [hfi]
    | some v => rw [AllS_look ha i v hk]; rfl
  · rw [List.getElem?_eq_none (by omega), List.getElem?_eq_none (by rw [fill_len]; omega)]
end
end Go.Ab
