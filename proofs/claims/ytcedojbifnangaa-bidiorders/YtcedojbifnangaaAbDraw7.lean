/- Regions that draw their order: one of the first operations more. -/
import Derived.Test.YtcedojbifnangaaAbDraw6
namespace Go.Ab

section
variable {P : Program} {md : FuncId → Nat} {call : Callf} {cfg : Cfg} {ops : Array Oper} {N : Nat} {x : Option Nat} {F : Nat → List V} {H : Nat → Heap} {v : Nat → V} {m0 : Mu} {w0 : World}

theorem addTo_self (S : Nat → Bool) (i : Nat) : addTo S i i = true := by simp [addTo]
theorem addTo_of {S : Nat → Bool} {i j : Nat} (h : S j = true) : addTo S i j = true := by simp only [addTo]; split <;> simp_all
theorem addTo_ne {S : Nat → Bool} {i j : Nat} (h : j ≠ i) : addTo S i j = S j := by simp [addTo, h]

/-- Calls stand in one order: what is known when one of them comes up. -/
theorem call_order (st : Static P ops N) {S : Nat → Bool} {k : Nat} (hk : ∀ i (hi : i < ops.size), i < N → isCall ops[i] = true → (S i = true ↔ i < k)) (hcl : Closed ops S) {i : Nat} {o : Oper} (hi : i < N) (ho : ops[i]? = some o) (hS : S i = false) (hr : Ready S o) (hc : isCall o = true) :
    k ≤ i ∧ (∀ j (hj : j < ops.size), k ≤ j → j < i → isCall ops[j] = false) ∧ ∀ j (hj : j < ops.size), j < N → isCall ops[j] = true → (addTo S i j = true ↔ j < i + 1) := by
  have hio : i < ops.size := (Array.getElem?_eq_some_iff.1 ho).1
  have hoe : ops[i] = o := (Array.getElem?_eq_some_iff.1 ho).2
  have hki : k ≤ i := by
    rcases Nat.lt_or_ge i k with h | h
    · have := (hk i hio hi (by rw [hoe]; exact hc)).2 h
      rw [hS] at this; cases this
    · exact h
  have hlow : ∀ j (hj : j < ops.size), j < i → isCall ops[j] = true → S j = true := by
    intro j hj hji hcj
    rcases st.head j i ops[j] o hji hi (Array.getElem?_eq_getElem hj) ho with h | ⟨_, h⟩
    · exact ord_listed st.back hcl i o ho hr h
    · exact absurd ⟨hcj, hc⟩ h
  refine ⟨hki, fun j hj hkj hji => ?_, fun j hj hjN hcj => ?_⟩
  · cases hcj : isCall ops[j] with
    | false => rfl
    | true =>
      have h1 := (hk j hj (by omega) hcj).1 (hlow j hj hji hcj)
      omega
  · by_cases hji : j = i
    · subst hji; simp [addTo_self]
    · rw [addTo_ne hji]
      constructor
      · intro hSj
        rcases Nat.lt_or_ge j i with h | h
        · omega
        · exfalso
          have hij : i < j := by omega
          rcases st.head i j o ops[j] hij hjN ho (Array.getElem?_eq_getElem hj) with h2 | ⟨_, h2⟩
          · have := ord_listed st.back hcl j _ (Array.getElem?_eq_getElem hj) (hcl j _ (Array.getElem?_eq_getElem hj) hSj) h2
            rw [hS] at this; cases this
          · exact h2 ⟨hc, hcj⟩
      · intro hlt
        exact hlow j hj (by omega) hcj

theorem call_other {S : Nat → Bool} {k : Nat} (hk : ∀ i (hi : i < ops.size), i < N → isCall ops[i] = true → (S i = true ↔ i < k)) {i : Nat} {o : Oper} (ho : ops[i]? = some o) (hc : isCall o = false) :
    ∀ j (hj : j < ops.size), j < N → isCall ops[j] = true → (addTo S i j = true ↔ j < k) := by
  intro j hj hjN hcj
  have hji : j ≠ i := by
    rintro rfl
    have hoe : ops[j] = o := (Array.getElem?_eq_some_iff.1 ho).2
    rw [hoe, hc] at hcj; cases hcj
  rw [addTo_ne hji]
  exact hk j hj hjN hcj

theorem jh_new (st : Static P ops N) (hN : Named P) (hcall : CallOK P call) (tr : Tr P md call cfg ops N x F H v) {S : Nat → Bool} {a : Act} {w : World} {m : Mu} {k : Nat} (J : JH ops N x F H v m0 w0 S a w m k) (hcl : Closed ops S)
    {i : Nat} {o : Oper} (hi : i < N) (ho : ops[i]? = some o) (hS : S i = false) {k' : Nat} (hk' : k' ≤ N) (hkc : ∀ j (hj : j < ops.size), j < N → isCall ops[j] = true → (addTo S i j = true ↔ j < k'))
    {m' : Mu} {w' : World} {u : Value} (e : Evo (m.cut (G H N x k) (H i).length) ((G H N x k).take (H i).length) w m' ((G H N x k').take (H (i + 1)).length) w') (r' : Rel m' ((G H N x k').take (H (i + 1)).length) w')
    (hru : R m' ((G H N x k').take (H (i + 1)).length) w' (v i) u)
    (hbx : ∀ b c cs, b < (H i).length → x = some b → (G H N x k')[b]? = some (some cs) → m' b = some c → ∀ j, j ≤ N → b < (H j).length → ∀ e ∈ cs, Bel (H j).length e) :
    JH ops N x F H v m0 w0 (addTo S i) (a.put o.dst u) w' (m.glue m' (H (i + 1)).length) k' := by
  have hle := st.le
  have hnn := tr.len1 hle hi
  have hn0 := tr.len hle (Nat.zero_le i) (by omega : i ≤ N)
  have hn'N := tr.len hle (by omega : i + 1 ≤ N) (Nat.le_refl N)
  have hgl : ∀ q, (G H N x q).length = (H N).length := G_length
  have hsame : ∀ b, (H i).length ≤ b → (G H N x k')[b]? = (G H N x k)[b]? := by
    intro b hb
    have hne : x ≠ some b := fun h => by have := tr.xlt b h; omega
    rw [G_other hne, G_other hne]
  have hsame' : ∀ b, (H (i + 1)).length ≤ b → (G H N x k')[b]? = (G H N x k)[b]? := fun b hb => hsame b (by omega)
  have hnew : ∀ b, (H i).length ≤ b → b < (H (i + 1)).length → live (G H N x k') b → live (G H N x k) b ∧ m b = none := by
    intro b h1 h2 hl
    have hlk : live (G H N x k) b := by
      obtain ⟨cs, hc⟩ := hl
      exact ⟨cs, by rw [← hsame b h1]; exact hc⟩
    refine ⟨hlk, ?_⟩
    cases hm : m b with
    | none => rfl
    | some c =>
      exfalso
      rcases J.dom b c hlk hm with h | ⟨j, hSj, hjN, hj1, hj2⟩
      · omega
      · rcases Nat.lt_trichotomy j i with h | h | h
        · have := tr.len hle (by omega : j + 1 ≤ i) (by omega); omega
        · subst h; rw [hS] at hSj; cases hSj
        · have := tr.len hle (by omega : i + 1 ≤ j) (by omega); omega
  have hzz := e.zeq
  have ew := evw_glue (n := (H i).length) (n' := (H (i + 1)).length) J.rel (by rw [hgl]; omega) hnn (by rw [hgl, hgl]) hsame' hnew e
  have rg := rel_glue (n := (H i).length) (n' := (H (i + 1)).length) J.rel (by rw [hgl]; omega) hnn (by rw [hgl, hgl]) (by rw [hgl]; omega) hsame' hnew e r'
  have rglue : ∀ {y : V} {z : Value}, R m' ((G H N x k').take (H (i + 1)).length) w' y z → R (m.glue m' (H (i + 1)).length) (G H N x k') w' y z := fun h => h.glue (n := (H i).length) hzz hnn hsame' (by rw [hgl]; omega)
  have htk : ((G H N x k').take (H (i + 1)).length).length = (H (i + 1)).length := by rw [List.length_take, hgl]; omega
  have htk0 : ((G H N x k).take (H i).length).length = (H i).length := by rw [List.length_take, hgl]; omega
  have hkeep : ∀ b c, b < (H i).length → live (G H N x k') b → m' b = some c → live (G H N x k) b ∧ m b = some c := by
    intro b c hb hl hm
    obtain ⟨h1, h2⟩ := e.keep b (by rw [htk0]; exact hb) ((live_take' (by omega)).2 hl)
    refine ⟨(live_take h1).2, ?_⟩
    rw [h2] at hm
    simpa [Mu.cut, hb] using hm
  refine ⟨hk', hkc, fun j hj => ?_, ?_, rg, ?_, fun b c hl hm => ?_, fun b c cs hc hm j hj hbj f hf => ?_, fun j hSj hj => ?_⟩
  · rw [addTo_ne (by omega)]; exact J.tail j hj
  · have E := J.evo
    refine ⟨E.zeq, by rw [hgl]; have := E.len; rw [hgl] at this; exact this, fun b hb hl => ?_, fun b c hl hb => ?_, fun b hb hno => ?_, Nat.le_trans E.size e.size, fun b hb => Nat.le_trans (E.rs b hb) (e.rs b (Nat.lt_of_lt_of_le hb E.size)), e.os.trans E.os, e.tape.trans E.tape, e.output.trans E.output⟩
    · obtain ⟨h1, h2⟩ := e.keep b (by rw [htk0]; omega) ((live_take' (by omega)).2 hl)
      obtain ⟨h3, h4⟩ := E.keep b hb (live_take h1).2
      refine ⟨h3, ?_⟩
      simp only [Mu.glue, show b < (H (i + 1)).length by omega, if_true, h2]
      simpa [Mu.cut, show b < (H i).length by omega] using h4
    · rcases ew.own b c hl hb with ⟨y, hy, hyb⟩ | hge
      · exact E.own y c hy hyb
      · exact .inr (Nat.le_trans E.size hge)
    · refine (ew.frame b (Nat.lt_of_lt_of_le hb E.size) fun y hy hyb => ?_).trans (E.frame b hb hno)
      rcases E.own y b hy hyb with ⟨z, hz, hzb⟩ | hge
      · exact hno z hz hzb
      · omega
  · rw [frS_add ho hS N hi (late_dst st hcl ho hS)]
    have f1 : FR (m.glue m' (H (i + 1)).length) (G H N x k') w' (frS ops v S (F 0) N) a := ⟨J.fR.len, fun s y z hy hz => (J.fR.slot s y z hy hz).evw ew J.rel.lt, J.fR.defers⟩
    exact f1.put (rglue hru) o.dst
  · by_cases hb1 : b < (H i).length
    · simp only [Mu.glue, show b < (H (i + 1)).length by omega, if_true] at hm
      obtain ⟨h1, h2⟩ := hkeep b c hb1 hl hm
      rcases J.dom b c h1 h2 with h | ⟨j, hSj, hjN, hj1, hj2⟩
      · exact .inl h
      · exact .inr ⟨j, addTo_of hSj, hjN, hj1, hj2⟩
    · by_cases hb2 : b < (H (i + 1)).length
      · exact .inr ⟨i, addTo_self S i, hi, by omega, hb2⟩
      · simp only [Mu.glue, hb2, if_false] at hm
        obtain ⟨cs, hc⟩ := hl
        rw [hsame' b (by omega)] at hc
        rcases J.dom b c ⟨cs, hc⟩ hm with h | ⟨j, hSj, hjN, hj1, hj2⟩
        · exact .inl h
        · exact .inr ⟨j, addTo_of hSj, hjN, hj1, hj2⟩
  · by_cases hb1 : b < (H i).length
    · simp only [Mu.glue, show b < (H (i + 1)).length by omega, if_true] at hm
      by_cases hx : x = some b
      · exact hbx b c cs hb1 hx hc hm j hj hbj f hf
      · obtain ⟨h1, h2⟩ := hkeep b c hb1 ⟨cs, hc⟩ hm
        rw [G_other hx, ← G_other (k := k) hx] at hc
        exact J.bel b c cs hc h2 j hj hbj f hf
    · by_cases hb2 : b < (H (i + 1)).length
      · simp only [Mu.glue, hb2, if_true] at hm
        have hbl := (r'.blk b cs c (by rw [List.getElem?_take, if_pos hb2]; exact hc) hm).bel hf
        rw [htk] at hbl
        have hij : i + 1 ≤ j := by
          rcases Nat.lt_or_ge i j with h | h
          · omega
          · have := tr.len hle h (by omega); omega
        exact hbl.mono (tr.len hle hij hj)
      · simp only [Mu.glue, hb2, if_false] at hm
        rw [hsame' b (by omega)] at hc
        exact J.bel b c cs hc hm j hj hbj f hf
  · by_cases hji : j = i
    · subst hji
      have := hru.bel
      rwa [htk] at this
    · rw [addTo_ne hji] at hSj
      exact J.vb j hSj hj
end
end Go.Ab
