/- Regions that draw their order: the whole region. -/
import Derived.Test.YtcedojbifnangaaAbFloat2
namespace Go.Ab

section
variable {P : Program} {md : FuncId → Nat} {call : Callf} {cfg : Cfg} {ops : Array Oper} {N : Nat} {x : Option Nat} {F : Nat → List V} {H : Nat → Heap} {v : Nat → V}

theorem tr_HS (hN : Named P) (hcall : CallOK P call) (tr : Tr P md call cfg ops N x F H v) (hle : N ≤ ops.size) : ∀ i, i ≤ N → HS cfg (H 0) (H i) := by
  intro i
  induction i with
  | zero => intro _; exact .refl _ _
  | succ i ih =>
    intro hi
    refine (ih (by omega)).trans ⟨tr.len1 hle (by omega), fun b hb hw => (tr.hs hN hcall hle (by omega)).1 b hb fun hx => ?_, fun D t _ h2 hinv => (tr.hs hN hcall hle (by omega)).2.2 D t h2 hinv⟩
    rw [tr.xwr b hx] at hw; cases hw

theorem frS_none (fr : List V) (n : Nat) : frS ops v (fun _ => false) fr n = fr := by
  induction n with
  | zero => rfl
  | succ n ih => simp only [frS, Bool.false_eq_true, if_false, ih]; split <;> rfl

theorem frS_all {S : Nat → Bool} (fr : List V) (n : Nat) (hS : ∀ j, j < n → S j = true) : frS ops v S fr n = frS ops v (fun _ => true) fr n := by
  induction n with
  | zero => rfl
  | succ n ih => simp only [frS, ih fun j hj => hS j (by omega), hS n (by omega)]

theorem G_all (hN : Named P) (hcall : CallOK P call) (tr : Tr P md call cfg ops N x F H v) (hle : N ≤ ops.size) {k : Nat} (hk : k ≤ N) (hno : ∀ j (hj : j < ops.size), k ≤ j → j < N → isCall ops[j] = false) : G H N x k = H N :=
  Hx_self tr hle (Nat.le_refl N) hk fun b hb => tr.xsame hN hcall hle hk (Nat.le_refl _) (Nat.lt_of_lt_of_le (tr.xlt b hb) (tr.len hle (Nat.zero_le _) hk)) hno

/-- Before the first of them. -/
theorem jh_start (hN : Named P) (hcall : CallOK P call) (tr : Tr P md call cfg ops N x F H v) (hle : N ≤ ops.size) {m : Mu} {w : World} {a : Act} (r : Rel m (H 0) w) (fR : FR m (H 0) w (F 0) a) :
    ∃ m', JH ops N x F H v m w (fun _ => false) a { w with drawn := w.drawn + 1 } m' 0 := by
  generalize hw1 : ({ w with drawn := w.drawn + 1 } : World) = w1
  have hh : w1.heap = w.heap := by rw [← hw1]
  have ho : w1.os = w.os := by rw [← hw1]
  have ht : w1.tape = w.tape := by rw [← hw1]
  have hu : w1.output = w.output := by rw [← hw1]
  have r1 : Rel m (H 0) w1 := rel_heap r hh ho ht hu
  have e1 : Evo m (H 0) w m (H 0) w1 := evo_heap hh ho ht hu
  have hgt : (G H N x 0).take (H 0).length = H 0 := by
    rw [G_take hN hcall tr hle (Nat.zero_le _) (Nat.zero_le _), Hx_self tr hle (Nat.zero_le _) (Nat.zero_le _) fun _ _ => rfl]
  have hgl : (G H N x 0).length = (H N).length := G_length 0
  have h0N := tr.len hle (Nat.zero_le N) (Nat.le_refl N)
  have hget : ∀ b, b < (H 0).length → (G H N x 0)[b]? = (H 0)[b]? := by
    intro b hb
    have : ((G H N x 0).take (H 0).length)[b]? = (H 0)[b]? := by rw [hgt]
    rwa [List.getElem?_take, if_pos hb] at this
  have hlv : ∀ b, b < (H 0).length → (live (G H N x 0) b ↔ live (H 0) b) := fun b hb => by simp only [live, hget b hb]
  generalize hm1 : (⟨fun b => if b < (H 0).length then m b else none, m.z⟩ : Mu) = m1
  have hmz : m1.z = m.z := by rw [← hm1]
  have hmb : ∀ b c, m1 b = some c → b < (H 0).length ∧ m b = some c := by
    intro b c hbc
    rw [← hm1] at hbc
    simp only at hbc
    split at hbc
    · rename_i hlt; exact ⟨hlt, hbc⟩
    · cases hbc
  have hml : ∀ b, b < (H 0).length → m1 b = m b := fun b hb => by rw [← hm1]; simp [hb]
  have hR : ∀ {y : V} {z : Value}, R m (H 0) w1 y z → R m1 (G H N x 0) w1 y z := by
    intro y z hyz
    have hz : m.z = (Mu.cut ⟨fun _ => none, m.z⟩ (G H N x 0) (H 0).length).z := by
      funext b
      simp [Mu.cut]
    have := R.glue (m := ⟨fun _ => none, m.z⟩) (g := G H N x 0) (m' := m) (g' := G H N x 0) (w' := w1) (n := (H 0).length) (n' := (H 0).length) hz (Nat.le_refl _) (fun _ _ => rfl) (by omega) (x := y) (v := z) (by rw [hgt]; exact hyz)
    have hge : Mu.glue ⟨fun _ => none, m.z⟩ m (H 0).length = m1 := by rw [← hm1]; rfl
    rwa [hge] at this
  refine ⟨m1, Nat.zero_le _, fun i _ _ _ => by simp, fun _ _ => rfl, ?_, ?_, ?_, fun b c hl hm => .inl (hmb b c hm).1, fun b c cs hc hm j hj hbj e he => ?_, fun i h => by cases h⟩
  · refine ⟨hmz, by omega, fun b hb hl => ⟨(hlv b hb).1 hl, hml b hb⟩, fun b c hl hc => ?_, e1.frame, e1.size, e1.rs, ho, ht, hu⟩
    obtain ⟨h1, h2⟩ := hmb b c hc
    exact .inl ⟨b, (hlv b h1).1 hl, h2⟩
  · refine ⟨fun b c hl hc => ?_, fun b hb => r1.zl b (by rw [← hmz]; exact hb), fun b b' c hl hl' hc hc' => ?_, fun b cs c hcs hc => ?_⟩
    · obtain ⟨h1, h2⟩ := hmb b c hc
      rw [hmz]
      exact r1.zo b c ((hlv b h1).1 hl) h2
    · obtain ⟨h1, h2⟩ := hmb b c hc
      obtain ⟨h3, h4⟩ := hmb b' c hc'
      exact r1.inj b b' c ((hlv b h1).1 hl) ((hlv b' h3).1 hl') h2 h4
    · obtain ⟨h1, h2⟩ := hmb b c hc
      rw [hget b h1] at hcs
      exact (r1.blk b cs c hcs h2).carry rfl fun d z _ hrz => hR hrz
  · rw [frS_none]
    exact ⟨fR.len, fun s y z hy hz => hR ((fR.slot s y z hy hz).evo e1 r.lt), fR.defers⟩
  · obtain ⟨h1, h2⟩ := hmb b c hm
    rw [hget b h1] at hc
    exact ((r1.blk b cs c hc h2).bel he).mono (tr.len hle (Nat.zero_le j) hj)

/-- One that floats, in the first part. -/
theorem jh_float {m0 : Mu} {w0 : World} (st : Static P ops N) (hN : Named P) (hcall : CallOK P call) (tr : Tr P md call cfg ops N x F H v) (hF0 : ∀ (s : Nat) (c : V), (F 0)[s]? = some c → Bel (H 0).length c) {S : Nat → Bool} {a : Act} {w : World} {m : Mu} {k : Nat}
    (J : JH ops N x F H v m0 w0 S a w m k) (hcl : Closed ops S) {i : Nat} {o : Oper} (hi : i < N) (ho : ops[i]? = some o) (hS : S i = false) (hr : Ready S o) (hfl : floats P o = true) :
    ∃ u, Blind P ops o a u ∧ ∃ m' k', JH ops N x F H v m0 w0 (addTo S i) (a.put o.dst u) w m' k' := by
  have hle := st.le
  have hslot : ∀ s ∈ o.looksAt ops, (frS ops v S (F 0) N)[s]? = (F i)[s]? := fun s hs => slot_eq st tr hcl hi ho hS hr hs
  have hgl : ∀ q, (G H N x q).length = (H N).length := G_length
  have hiN := tr.len hle (by omega : i ≤ N) (Nat.le_refl N)
  obtain ⟨hFs, hkind⟩ := tr.step i o hi ho
  have hwd : ∀ b, wantd ops (F i) o = some b → Region.wanted o (yielded ops a.tmps) = b := fun b hb => wantd_ok J.fR (by rw [wantd_congr hslot]; exact hb)
  have hbelslot : ∀ s ∈ o.looksAt ops, ∀ c, (F i)[s]? = some c → Bel (H i).length c := by
    intro s hs
    refine slot_bel tr hle (hF0 s) i (by omega) fun j oj hj hoj hd => ?_
    have hSj : S j = true := by
      rcases st.head j i oj o hj hi hoj ho with h | ⟨h, _⟩
      · exact ord_listed st.back hcl i o ho hr h
      · exact absurd hs ((Oper.apart_spec h).1 s hd)
    exact J.vb j hSj (by omega)
  have hrelcut : Rel (m.cut (G H N x k) (H i).length) ((G H N x k).take (H i).length) w := J.rel.cut (by rw [hgl]; exact hiN) fun b cs c hb hc hm e he => J.bel b c cs hc hm i (by omega) hb e he
  have hfrcut : FR (m.cut (G H N x k) (H i).length) ((G H N x k).take (H i).length) w (onlyAt (o.looksAt ops) (frS ops v S (F 0) N)) a := by
    refine ⟨by rw [onlyAt_length]; exact J.fR.len, fun s y z hy hz => ?_, J.fR.defers⟩
    by_cases hs : s ∈ o.looksAt ops
    · rw [onlyAt_in hs] at hy
      exact (J.fR.slot s y z hy hz).cut (by rw [hgl]; exact hiN) (hbelslot s hs y (by rw [← hslot s hs]; exact hy))
    · rw [onlyAt_out hs hy]; exact .any _
  have hcong : ∀ s ∈ o.looksAt ops, (F i)[s]? = (onlyAt (o.looksAt ops) (frS ops v S (F 0) N))[s]? := fun s hs => by rw [onlyAt_in hs, hslot s hs]
  have hnc : isCall o = false := by
    unfold floats at hfl
    unfold isCall
    split at hfl <;> rename_i hop <;> first
      | (rw [hop]; done)
      | (split at hfl <;> first | (rw [hop]; done) | (cases hfl; done))
      | (cases hfl; done)
  -- what it leaves, and the step
  have fin : ∀ u, H (i + 1) = H i → R (m.cut (G H N x k) (H i).length) ((G H N x k).take (H i).length) w (v i) u → ∃ m' k', JH ops N x F H v m0 w0 (addTo S i) (a.put o.dst u) w m' k' := by
    intro u hH hru
    refine ⟨_, k, jh_new st hN hcall tr J hcl hi ho hS J.kle (call_other J.kcall ho hnc) (m' := m.cut (G H N x k) (H i).length) (w' := w) (u := u) (by rw [hH]; exact .refl _ _ _) (by rw [hH]; exact hrelcut) (by rw [hH]; exact hru) ?_⟩
    intro b c cs hb _ hc hm j hj hbj e he
    exact J.bel b c cs hc (by simpa [Mu.cut, hb] using hm) j hj hbj e he
  rcases hkind with ⟨hw, hv, hH⟩ | ⟨hw, hic, hh, hop, hrd⟩ | ⟨hw, hic, _⟩
  · exact ⟨undef, .inr ⟨hwd false hw, rfl⟩, fin undef hH (by rw [hv]; exact .no)⟩
  · obtain ⟨hH, _⟩ := float_heap hfl hop
    have hop2 : opV P cfg (onlyAt (o.looksAt ops) (frS ops v S (F 0) N)) (H i) o.op = some (v i, H (i + 1)) := by
      have h1 : opEv P md call cfg (F i) (H i) o.op = some (v i, H (i + 1)) := by rw [opEv_nocall hnc]; exact hop
      rw [opEv_congr (ev_congr hcong), opEv_nocall hnc] at h1
      exact h1
    obtain ⟨u, hu, hru⟩ := float_ok hfl hop2 hfrcut
    exact ⟨u, .inl ⟨hwd true hw, hu⟩, fin u hH hru⟩
  · rw [hnc] at hic; cases hic

/-- One that floats, in the last part. -/
theorem step_float {m0 : Mu} {h0 : Heap} {w0 : World} {o : Oper} (hfl : floats P o = true) {fr fr2 : List V} {h h2 : Heap} (hst : stepOp P md call cfg ops o fr h = some (fr2, h2)) {a : Act} {w : World} (k : After m0 h0 w0 fr h a w) :
    ∃ u, Blind P ops o a u ∧ After m0 h0 w0 fr2 h2 (a.put o.dst u) w := by
  obtain ⟨m, e, r, f⟩ := k
  have hnc : isCall o = false := by
    unfold floats at hfl
    unfold isCall
    split at hfl <;> rename_i hop <;> first
      | (rw [hop]; done)
      | (split at hfl <;> first | (rw [hop]; done) | (cases hfl; done))
      | (cases hfl; done)
  unfold stepOp at hst
  split at hst
  · rename_i hw
    rw [opEv_nocall hnc] at hst
    split at hst
    · rename_i y h1 hop
      simp only [Option.some.injEq, Prod.mk.injEq] at hst
      obtain ⟨rfl, rfl⟩ := hst
      obtain ⟨rfl, _⟩ := float_heap hfl hop
      obtain ⟨u, hu, hru⟩ := float_ok hfl hop f
      exact ⟨u, .inl ⟨wantd_ok f hw, hu⟩, m, e, r, f.put hru o.dst⟩
    · cases hst
  · rename_i hw
    simp only [Option.some.injEq, Prod.mk.injEq] at hst
    obtain ⟨rfl, rfl⟩ := hst
    exact ⟨undef, .inr ⟨wantd_ok f hw, rfl⟩, m, e, r, f.put .no o.dst⟩
  · cases hst

theorem drawR_ok (hm : P.follows .mixedOrders = true) (hN : Named P) (hcall : CallOK P call) : DrawOK P (drawR P md call) := by
  intro cfg ops fr h fr' h' hd
  unfold drawR at hd
  simp only at hd
  split at hd
  · rename_i hok
    split at hd
    · rename_i fr1 h1 x ld hrun
      split at hd
      · rename_i hld
        have st := static_of_ok hok
        generalize headLen (floatMask P 0 ops.toList) (befs [] ops.toList) ops.size = N at st hrun hd
        obtain ⟨F, H, v, hF0, hH0, hFN, hHN, tr⟩ := tr_of_run hN hcall st.le hrun hld
        subst hF0 hH0 hFN hHN
        obtain ⟨hs2, _⟩ := runOps_ok hN hcall _ hd
        refine ⟨(tr_HS hN hcall tr st.le N (Nat.le_refl _)).trans hs2, fun m w a id r fR Q hQ => ?_⟩
        have hF0b : ∀ (s : Nat) (c : V), (F 0)[s]? = some c → Bel (H 0).length c := by
          intro s c hc
          have hlt : s < a.tmps.size := by rw [← fR.len]; exact (List.getElem?_eq_some_iff.1 hc).1
          exact (fR.slot s c _ hc (Array.getElem?_eq_getElem hlt)).bel
        -- all of the first ones have been carried out
        have done : ∀ (S : Nat → Bool) (a' : Act) (w' : World) (m' : Mu) (k : Nat), JH ops N x F H v m w S a' w' m' k → (∀ j, j < N → S j = true) → After m (H 0) w (F N) (H N) a' w' := by
          intro S a' w' m' k J hall
          have hG : G H N x k = H N := G_all hN hcall tr st.le J.kle fun j hj hkj hjN => by
            cases hc : isCall ops[j] with
            | false => rfl
            | true => have := (J.kcall j hj hjN hc).1 (hall j hjN); omega
          have hf : frS ops v S (F 0) N = F N := by rw [frS_all (F 0) N hall, ← F_frS tr st.le (Nat.le_refl N)]
          exact ⟨m', by rw [← hG]; exact J.evo, by rw [← hG]; exact J.rel, by rw [← hG, ← hf]; exact J.fR⟩
        let J : (Nat → Bool) → Act → World → Prop := fun S a' w' => (∃ m' k, JH ops N x F H v m w S a' w' m' k) ∨
          ∃ t frt ht, N < t ∧ t ≤ ops.size ∧ (∀ i, i < ops.size → (S i = true ↔ i < t)) ∧ After m (H 0) w frt ht a' w' ∧ runOps P md call cfg ops (ops.toList.drop t) frt ht = some (fr', h')
        obtain ⟨m1, hstart⟩ := jh_start hN hcall tr st.le r fR
        -- one of the last ones
        have unroll : ∀ (t : Nat) (o : Oper) (frt : List V) (ht : Heap), ops[t]? = some o → runOps P md call cfg ops (ops.toList.drop t) frt ht = some (fr', h') →
            ∃ fr2 h2, stepOp P md call cfg ops o frt ht = some (fr2, h2) ∧ runOps P md call cfg ops (ops.toList.drop (t + 1)) fr2 h2 = some (fr', h') := by
          intro t o frt ht hto hrt
          have htl : t < ops.toList.length := by simpa using (Array.getElem?_eq_some_iff.1 hto).1
          have hte : ops.toList[t] = o := by simpa using (Array.getElem?_eq_some_iff.1 hto).2
          rw [List.drop_eq_getElem_cons htl, hte] at hrt
          simp only [runOps] at hrt
          split at hrt
          · rename_i fr2 h2 hst
            exact ⟨fr2, h2, hst, hrt⟩
          · cases hrt
        have grow : ∀ (S : Nat → Bool) (t : Nat), (∀ i, i < ops.size → (S i = true ↔ i < t)) → ∀ i, i < ops.size → (addTo S t i = true ↔ i < t + 1) := by
          intro S t hSt i hi
          by_cases hit : i = t
          · subst hit; simp [addTo_self]
          · rw [addTo_ne hit, hSt i hi]; omega
        -- where one of the last ones stands when it comes up
        have place : ∀ (S : Nat → Bool) (a' : Act) (w' : World), J S a' w' → ∀ (i : Nat) (o : Oper), N ≤ i → ops[i]? = some o → S i = false → (∀ p, p < i → S p = true) →
            (∀ j, j < ops.size → (S j = true ↔ j < i)) ∧ ∃ frt ht, After m (H 0) w frt ht a' w' ∧ runOps P md call cfg ops (ops.toList.drop i) frt ht = some (fr', h') := by
          intro S a' w' hJ i o hiN ho hS hall
          have hio : i < ops.size := (Array.getElem?_eq_some_iff.1 ho).1
          rcases hJ with ⟨m', k, JJ⟩ | ⟨t, frt, ht, hNt, htn, hSt, haft, hrt⟩
          · have hiN' : i = N := by
              rcases Nat.lt_or_ge N i with h | h
              · have h1 := hall N h
                rw [JJ.tail N (Nat.le_refl _)] at h1; cases h1
              · omega
            subst hiN'
            refine ⟨fun j hj => ⟨fun h => ?_, fun h => hall j h⟩, _, _, done S a' w' m' k JJ hall, hd⟩
            rcases Nat.lt_or_ge j i with h2 | h2
            · exact h2
            · rw [JJ.tail j h2] at h; cases h
          · have hit : i = t := by
              have h1 : ¬ i < t := fun h => by have := (hSt i hio).2 h; rw [hS] at this; cases this
              rcases Nat.lt_or_ge t i with h | h
              · have := (hSt t (by omega)).1 (hall t h); omega
              · omega
            subst hit
            exact ⟨hSt, frt, ht, haft, hrt⟩
        have early : ∀ (S : Nat → Bool) (a' : Act) (w' : World), J S a' w' → ∀ i, i < N → S i = false → ∃ m' k, JH ops N x F H v m w S a' w' m' k := by
          intro S a' w' hJ i hiN hS
          rcases hJ with h | ⟨t, frt, ht, hNt, htn, hSt, haft, hrt⟩
          · exact h
          · have := (hSt i (by omega)).2 (by omega)
            rw [hS] at this; cases this
        refine region_of_float hm st J ?_ ?_ ?_ (.inl ⟨m1, 0, hstart⟩)
        · intro S a' w' hJ hcl i o ho hS hr hfl hmin
          have hio : i < ops.size := (Array.getElem?_eq_some_iff.1 ho).1
          rcases Nat.lt_or_ge i N with hiN | hiN
          · obtain ⟨m', k, JJ⟩ := early S a' w' hJ i hiN hS
            obtain ⟨u, hb, h⟩ := jh_float st hN hcall tr hF0b JJ hcl hiN ho hS hr hfl
            exact ⟨u, hb, .inl h⟩
          · obtain ⟨hSt, frt, ht, haft, hrt⟩ := place S a' w' hJ i o hiN ho hS (below_done st hcl hiN ho hr hmin)
            obtain ⟨fr2, h2, hst, hrt2⟩ := unroll i o frt ht ho hrt
            obtain ⟨u, hb, haft2⟩ := step_float hfl hst haft
            exact ⟨u, hb, .inr ⟨i + 1, fr2, h2, by omega, by omega, grow S i hSt, haft2, hrt2⟩⟩
        · intro S a' w' hJ hcl hsat i o ho hS hr
          have hio : i < ops.size := (Array.getElem?_eq_some_iff.1 ho).1
          rcases Nat.lt_or_ge i N with hiN | hiN
          · obtain ⟨m', k, JJ⟩ := early S a' w' hJ i hiN hS
            exact wpOp_mono (fun a2 w2 h => .inl h) (jh_step st hN hcall tr hF0b JJ hcl hiN ho hS hr (only Q))
          · obtain ⟨hSt, frt, ht, ⟨m', e', r', f'⟩, hrt⟩ := place S a' w' hJ i o hiN ho hS (below_done st hcl hiN ho hr fun p q _ => hsat p q)
            obtain ⟨fr2, h2, hst, hrt2⟩ := unroll i o frt ht ho hrt
            obtain ⟨_, hw2⟩ := stepOp_ok hN hcall hst
            unfold wpOp
            rw [ho]
            simp only
            exact hw2 m' w' a' r' f' _ (only Q) fun a2 w2 k2 => .inr ⟨i + 1, fr2, h2, by omega, by omega, grow S i hSt, k2.trans e', hrt2⟩
        · intro S a' w' hJ hall
          rcases hJ with ⟨m', k, JJ⟩ | ⟨t, frt, ht, hNt, htn, hSt, haft, hrt⟩
          · have hNn : N = ops.size := by
              rcases Nat.lt_or_ge N ops.size with h | h
              · have := hall N h
                rw [JJ.tail N (Nat.le_refl _)] at this; cases this
              · have := st.le; omega
            have hfin := done S a' w' m' k JJ fun j hj => hall j (by omega)
            rw [List.drop_of_length_le (by simp; omega)] at hd
            simp only [runOps, Option.some.injEq, Prod.mk.injEq] at hd
            obtain ⟨h1, h2⟩ := hd
            rw [← h1, ← h2] at hQ
            exact hQ a' w' hfin
          · have htn' : t = ops.size := by
              rcases Nat.lt_or_ge t ops.size with h | h
              · have := (hSt t h).1 (hall t h); omega
              · omega
            rw [List.drop_of_length_le (by simp; omega)] at hrt
            simp only [runOps, Option.some.injEq, Prod.mk.injEq] at hrt
            obtain ⟨h1, h2⟩ := hrt
            rw [← h1, ← h2] at hQ
            exact hQ a' w' haft
      · cases hd
    · cases hd
  · cases hd
end
end Go.Ab
