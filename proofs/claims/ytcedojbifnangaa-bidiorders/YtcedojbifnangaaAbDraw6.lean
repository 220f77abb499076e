/- Regions that draw their order: the first operations, in whatever order. -/
import Derived.Test.YtcedojbifnangaaAbDraw5
namespace Go.Ab

theorem Bel.mono {s t : Nat} (hst : s ≤ t) {v : V} (h : Bel s v) : Bel t v := by
  induction h with
  | rf h => exact .rf h
  | ptr h => exact .ptr (by omega)
  | sl h => exact .sl (by omega)
  | mref h => exact .mref (by omega)
  | func _ _ ih ih' => exact .func ih ih'
  | agg _ ih => exact .agg ih
  | tup _ ih => exact .tup ih
  | iface _ ih => exact .iface ih

section
variable {P : Program} {md : FuncId → Nat} {call : Callf} {cfg : Cfg} {ops : Array Oper} {N : Nat} {x : Option Nat} {F : Nat → List V} {H : Nat → Heap} {v : Nat → V}

theorem Tr.len1 (tr : Tr P md call cfg ops N x F H v) (hle : N ≤ ops.size) {i : Nat} (hi : i < N) : (H i).length ≤ (H (i + 1)).length := by
  obtain ⟨_, hk⟩ := tr.step i ops[i] hi (Array.getElem?_eq_getElem (by omega))
  rcases hk with ⟨_, _, h⟩ | ⟨_, _, h1, h2, _⟩ | ⟨_, _, h, _⟩
  · rw [h]; exact Nat.le_refl _
  · rcases opV_head_heap h1 h2 with h | ⟨n, h⟩ <;> rw [h] <;> simp
  · omega

theorem Tr.len (tr : Tr P md call cfg ops N x F H v) (hle : N ≤ ops.size) {i j : Nat} (hij : i ≤ j) (hj : j ≤ N) : (H i).length ≤ (H j).length :=
  upTo (p := fun j => (H i).length ≤ (H j).length) (N := N) (fun _ hk h => Nat.le_trans h (tr.len1 hle hk)) (Nat.le_refl _) j hij hj

theorem Tr.hs (hN : Named P) (hcall : CallOK P call) (tr : Tr P md call cfg ops N x F H v) (hle : N ≤ ops.size) {i : Nat} (hi : i < N) :
    (∀ b, b < (H i).length → x ≠ some b → (H (i + 1))[b]? = (H i)[b]?) ∧ (isCall ops[i] = false → ∀ b, b < (H i).length → (H (i + 1))[b]? = (H i)[b]?) ∧ (∀ (D : Nat → Prop) (t : Nat), t ≤ (H i).length → Inv D (H i) t → Inv D (H (i + 1)) t) := by
  obtain ⟨_, hk⟩ := tr.step i ops[i] hi (Array.getElem?_eq_getElem (by omega))
  rcases hk with ⟨_, _, h⟩ | ⟨_, hic, h1, h2, _⟩ | ⟨_, hic, _, c, hthr, hev, hwr⟩
  · rw [h]; exact ⟨fun _ _ _ => rfl, fun _ _ _ => rfl, fun _ _ _ h => h⟩
  · have key : ∀ b, b < (H i).length → (H (i + 1))[b]? = (H i)[b]? := by
      intro b hb
      rcases opV_head_heap h1 h2 with h | ⟨n, h⟩
      · rw [h]
      · rw [h, List.getElem?_append_left hb]
    refine ⟨fun b hb _ => key b hb, fun _ b hb => key b hb, fun D t ht hinv b cs hb hD hc c hcc => ?_⟩
    rw [key b (by omega)] at hc
    exact hinv b cs hb hD hc c hcc
  · obtain ⟨_, hhs⟩ := opEv_ok hN hcall hev
    refine ⟨fun b hb hx => hhs.prot b hb (hwr b hb hx), (fun h => by rw [hic] at h; cases h), fun D t ht hinv => hhs.inv D t (by rw [hthr]; exact ht) ht hinv⟩

theorem Tr.same (hN : Named P) (hcall : CallOK P call) (tr : Tr P md call cfg ops N x F H v) (hle : N ≤ ops.size) {i j b : Nat} (hij : i ≤ j) (hj : j ≤ N) (hb : b < (H i).length) (hx : x ≠ some b) : (H j)[b]? = (H i)[b]? := by
  have := upTo (p := fun j => b < (H j).length ∧ (H j)[b]? = (H i)[b]?) (N := N) (fun k hk h => ⟨Nat.lt_of_lt_of_le h.1 (tr.len1 hle hk), ((tr.hs hN hcall hle hk).1 b h.1 hx).trans h.2⟩) ⟨hb, rfl⟩ j hij hj
  exact this.2

theorem Tr.xsame (hN : Named P) (hcall : CallOK P call) (tr : Tr P md call cfg ops N x F H v) (hle : N ≤ ops.size) {i j b : Nat} (hij : i ≤ j) (hj : j ≤ N) (hb : b < (H i).length) (hnc : ∀ k (hk : k < ops.size), i ≤ k → k < j → isCall ops[k] = false) : (H j)[b]? = (H i)[b]? := by
  have := upTo (p := fun q => b < (H q).length ∧ (H q)[b]? = (H i)[b]? ∧ i ≤ q) (N := j) (fun k hk h => ⟨Nat.lt_of_lt_of_le h.1 (tr.len1 hle (by omega)), ((tr.hs hN hcall hle (by omega)).2.1 (hnc k (by omega) h.2.2 hk) b h.1).trans h.2.1, by omega⟩) ⟨hb, rfl, Nat.le_refl _⟩ j hij (Nat.le_refl _)
  exact this.2.1

/-- The heap once the calls below k have been carried out. -/
def G (H : Nat → Heap) (N : Nat) (x : Option Nat) (k : Nat) : Heap :=
  match x with
  | some b => (H N).set b ((H k).getD b none)
  | none => H N

theorem G_length (k : Nat) : (G H N x k).length = (H N).length := by
  unfold G
  split <;> simp

theorem G_other {k b : Nat} (hx : x ≠ some b) : (G H N x k)[b]? = (H N)[b]? := by
  unfold G
  split
  · rename_i c
    rw [List.getElem?_set_ne (fun e => hx (by rw [e]))]
  · rfl

theorem G_x {k b : Nat} (hx : x = some b) (h1 : b < (H N).length) (h2 : b < (H k).length) : (G H N x k)[b]? = (H k)[b]? := by
  subst hx
  simp only [G]
  rw [List.getElem?_set_self h1, List.getD_eq_getElem?_getD, List.getElem?_eq_getElem h2]
  simp

/-- The heap before operation i, with x as it is after the calls below k. -/
def Hx (H : Nat → Heap) (x : Option Nat) (k i : Nat) : Heap :=
  match x with
  | some b => (H i).set b ((H k).getD b none)
  | none => H i

theorem G_take (hN : Named P) (hcall : CallOK P call) (tr : Tr P md call cfg ops N x F H v) (hle : N ≤ ops.size) {i k : Nat} (hi : i ≤ N) (hk : k ≤ N) : (G H N x k).take (H i).length = Hx H x k i := by
  have hl := tr.len hle hi (Nat.le_refl _)
  apply List.ext_getElem?
  intro b
  rw [List.getElem?_take]
  split
  · rename_i hb
    by_cases hx : x = some b
    · have hb0 := tr.xlt b hx
      have hbk : b < (H k).length := Nat.lt_of_lt_of_le hb0 (tr.len hle (Nat.zero_le _) hk)
      rw [G_x hx (by omega) hbk]
      subst hx
      simp only [Hx]
      rw [List.getElem?_set_self hb, List.getD_eq_getElem?_getD, List.getElem?_eq_getElem hbk]
      simp
    · rw [G_other hx, tr.same hN hcall hle hi (Nat.le_refl _) hb hx]
      unfold Hx
      split
      · rename_i c
        rw [List.getElem?_set_ne (fun e => hx (by rw [e]))]
      · rfl
  · rename_i hb
    unfold Hx
    split <;> rw [List.getElem?_eq_none (by first | omega | (simp; omega))]

theorem Hx_self (tr : Tr P md call cfg ops N x F H v) (hle : N ≤ ops.size) {i k : Nat} (hi : i ≤ N) (hk : k ≤ N) (hsame : ∀ b, x = some b → (H i)[b]? = (H k)[b]?) : Hx H x k i = H i := by
  unfold Hx
  split
  · rename_i b
    have hb0 := tr.xlt b rfl
    have hbk : b < (H k).length := Nat.lt_of_lt_of_le hb0 (tr.len hle (Nat.zero_le _) hk)
    have hbi : b < (H i).length := Nat.lt_of_lt_of_le hb0 (tr.len hle (Nat.zero_le _) hi)
    have h1 := hsame b rfl
    apply List.ext_getElem?
    intro c
    by_cases hcb : b = c
    · subst hcb
      rw [List.getElem?_set_self hbi, List.getD_eq_getElem?_getD, ← h1, List.getElem?_eq_getElem hbi]
      simp
    · rw [List.getElem?_set_ne hcb]
  · rfl

/-- What holds once the operations of S have been carried out, whatever their order. -/
structure JH (ops : Array Oper) (N : Nat) (x : Option Nat) (F : Nat → List V) (H : Nat → Heap) (v : Nat → V) (m0 : Mu) (w0 : World) (S : Nat → Bool) (a : Act) (w : World) (m : Mu) (k : Nat) : Prop where
  kle : k ≤ N
  kcall : ∀ i (hi : i < ops.size), i < N → isCall ops[i] = true → (S i = true ↔ i < k)
  tail : ∀ i, N ≤ i → S i = false
  evo : Evo m0 (H 0) w0 m (G H N x k) w
  rel : Rel m (G H N x k) w
  fR : FR m (G H N x k) w (frS ops v S (F 0) N) a
  dom : ∀ b c, live (G H N x k) b → m b = some c → b < (H 0).length ∨ ∃ i, S i = true ∧ i < N ∧ (H i).length ≤ b ∧ b < (H (i + 1)).length
  bel : ∀ b c cs, (G H N x k)[b]? = some (some cs) → m b = some c → ∀ j, j ≤ N → b < (H j).length → ∀ e ∈ cs, Bel (H j).length e
  vb : ∀ i, S i = true → i < N → Bel (H (i + 1)).length (v i)

theorem F_frS (tr : Tr P md call cfg ops N x F H v) (hle : N ≤ ops.size) {i : Nat} (hi : i ≤ N) : F i = frS ops v (fun _ => true) (F 0) i := by
  induction i with
  | zero => rfl
  | succ i ih =>
    have ho : ops[i]? = some ops[i] := Array.getElem?_eq_getElem (by omega)
    rw [(tr.step i ops[i] (by omega) ho).1, ih (by omega)]
    simp [frS, ho]

/-- A slot that an operation looks at holds what it held in the text's order. -/
theorem slot_eq (st : Static P ops N) (tr : Tr P md call cfg ops N x F H v) {S : Nat → Bool} (hcl : Closed ops S) {i : Nat} {o : Oper} (hi : i < N) (ho : ops[i]? = some o) (hS : S i = false) (hr : Ready S o) {s : Nat} (hs : s ∈ o.looksAt ops) :
    (frS ops v S (F 0) N)[s]? = (F i)[s]? := by
  rw [F_frS tr st.le (by omega : i ≤ N), ← frS_below (ops := ops) (v := v) (fr := F 0) N (by omega : i ≤ N)]
  refine frS_slot N fun j oj hj hoj => ?_
  by_cases hji : j < i
  · simp only [hji, decide_true]
    by_cases hSj : S j = true
    · exact .inl hSj
    · right
      rcases st.head j i oj o hji hi hoj ho with h | ⟨h, _⟩
      · exact absurd (ord_listed st.back hcl i o ho hr h) hSj
      · exact fun hd => (Oper.apart_spec h).1 s hd hs
  · simp only [hji, decide_false]
    by_cases hSj : S j = true
    · right
      have hji' : i < j := by
        rcases Nat.lt_or_ge i j with h | h
        · exact h
        · have : i = j := by omega
          subst this
          rw [hS] at hSj; cases hSj
      rcases st.head i j o oj hji' hj ho hoj with h | ⟨h, _⟩
      · have := ord_listed st.back hcl j oj hoj (hcl j oj hoj hSj) h
        rw [hS] at this; cases this
      · exact fun hd => (Oper.apart_spec h).2.2 s hd hs
    · exact .inl (by simpa using hSj)

theorem late_dst (st : Static P ops N) {S : Nat → Bool} (hcl : Closed ops S) {i : Nat} {o : Oper} (ho : ops[i]? = some o) (hS : S i = false) :
    ∀ j oj, i < j → j < N → ops[j]? = some oj → S j = true → ∀ s, o.dst = some s → oj.dst ≠ some s := by
  intro j oj hij hj hoj hSj s hs
  rcases st.head i j o oj hij hj ho hoj with h | ⟨h, _⟩
  · have := ord_listed st.back hcl j oj hoj (hcl j oj hoj hSj) h
    rw [hS] at this; cases this
  · exact (Oper.apart_spec h).2.1 s hs

theorem slot_bel (tr : Tr P md call cfg ops N x F H v) (hle : N ≤ ops.size) {s : Nat} (h0 : ∀ c, (F 0)[s]? = some c → Bel (H 0).length c) : ∀ (i : Nat), i ≤ N → (∀ j o, j < i → ops[j]? = some o → o.dst = some s → Bel (H (j + 1)).length (v j)) →
    ∀ c, (F i)[s]? = some c → Bel (H i).length c := by
  intro i
  induction i with
  | zero => intro _ _ c hc; exact h0 c hc
  | succ i ih =>
    intro hi hw c hc
    have ho : ops[i]? = some ops[i] := Array.getElem?_eq_getElem (by omega)
    rw [(tr.step i ops[i] (by omega) ho).1] at hc
    by_cases hd : ops[i].dst = some s
    · rw [hd] at hc
      simp only [put] at hc
      by_cases hlt : s < (F i).length
      · rw [List.getElem?_set_self hlt] at hc
        cases hc
        exact hw i ops[i] (by omega) ho hd
      · rw [List.set_eq_of_length_le (by omega), List.getElem?_eq_none (by omega)] at hc
        cases hc
    · rw [put_get hd] at hc
      exact (ih (by omega) (fun j o hj => hw j o (by omega)) c hc).mono (tr.len1 hle (by omega))
end
end Go.Ab
