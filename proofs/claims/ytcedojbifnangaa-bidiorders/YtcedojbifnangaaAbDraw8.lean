/- Regions that draw their order: proved. -/
import Derived.Test.YtcedojbifnangaaAbDraw7
namespace Go.Ab

/-- Only the slots that are looked at. -/
def onlyAt (looks : List Nat) (fr : List V) : List V := fr.mapIdx fun s c => if looks.contains s then c else .any

theorem onlyAt_length (looks : List Nat) (fr : List V) : (onlyAt looks fr).length = fr.length := by simp [onlyAt]

theorem onlyAt_in {looks : List Nat} {fr : List V} {s : Nat} (hs : s ∈ looks) : (onlyAt looks fr)[s]? = fr[s]? := by
  simp only [onlyAt, List.getElem?_mapIdx]
  cases fr[s]? <;> simp [hs]

theorem onlyAt_out {looks : List Nat} {fr : List V} {s : Nat} (hs : ¬ s ∈ looks) {c : V} (hc : (onlyAt looks fr)[s]? = some c) : c = .any := by
  simp only [onlyAt, List.getElem?_mapIdx] at hc
  cases h : fr[s]? with
  | none => simp [h] at hc
  | some d => simp [h, hs] at hc; exact hc.symm

theorem wantd_congr {ops : Array Oper} {o : Oper} {fr fr' : List V} (h : ∀ s ∈ o.looksAt ops, fr[s]? = fr'[s]?) : wantd ops fr o = wantd ops fr' o := by
  unfold wantd
  cases hg : o.guard with
  | none => rfl
  | some g =>
    obtain ⟨j, want⟩ := g
    simp only
    cases hp : ops[j]? with
    | none => rfl
    | some p =>
      simp only
      cases hd : p.dst with
      | none => rfl
      | some d =>
        simp only
        rw [h d (by simp [Oper.looksAt, hg, hp, hd])]

theorem ev_congr {ops : Array Oper} {o : Oper} {fr fr' : List V} (h : ∀ s ∈ o.looksAt ops, fr[s]? = fr'[s]?) : ∀ p ∈ o.op.operands.toList, ev fr p = ev fr' p := by
  intro p hp
  cases p with
  | tmp t =>
    simp only [ev]
    refine h t ?_
    simp only [Oper.looksAt, List.mem_append, List.mem_filterMap]
    exact .inl ⟨.tmp t, hp, rfl⟩
  | const v => rfl
  | global g => rfl
  | func f => rfl

theorem opEv_nocall {P : Program} {md : FuncId → Nat} {call : Callf} {c : Cfg} {fr : List V} {h : Heap} {o : Oper} (hc : isCall o = false) : opEv P md call c fr h o.op = opV P c fr h o.op := by
  unfold isCall at hc
  unfold opEv
  split at hc
  · cases hc
  · cases hc
  · rename_i hn _
    split
    · rename_i f args tys hop; exact absurd hop (hn f args tys)
    · rfl

section
variable {P : Program} {md : FuncId → Nat} {call : Callf} {cfg : Cfg} {ops : Array Oper} {N : Nat} {x : Option Nat} {F : Nat → List V} {H : Nat → Heap} {v : Nat → V} {m0 : Mu} {w0 : World}

theorem jh_step (st : Static P ops N) (hN : Named P) (hcall : CallOK P call) (tr : Tr P md call cfg ops N x F H v) (hF0 : ∀ (s : Nat) (c : V), (F 0)[s]? = some c → Bel (H 0).length c) {S : Nat → Bool} {a : Act} {w : World} {m : Mu} {k : Nat}
    (J : JH ops N x F H v m0 w0 S a w m k) (hcl : Closed ops S) {i : Nat} {o : Oper} (hi : i < N) (ho : ops[i]? = some o) (hS : S i = false) (hr : Ready S o) (Q : Exit → Act → World → Prop) :
    wpOp P ops Q i (fun a' w' => ∃ m' k', JH ops N x F H v m0 w0 (addTo S i) a' w' m' k') a w := by
  have hle := st.le
  have hio : i < ops.size := (Array.getElem?_eq_some_iff.1 ho).1
  have hoe : ops[i] = o := (Array.getElem?_eq_some_iff.1 ho).2
  have hslot : ∀ s ∈ o.looksAt ops, (frS ops v S (F 0) N)[s]? = (F i)[s]? := fun s hs => slot_eq st tr hcl hi ho hS hr hs
  have hgl : ∀ q, (G H N x q).length = (H N).length := G_length
  have hiN := tr.len hle (by omega : i ≤ N) (Nat.le_refl N)
  have hn0 := tr.len hle (Nat.zero_le i) (by omega : i ≤ N)
  obtain ⟨hFs, hkind⟩ := tr.step i o hi ho
  have hwd : ∀ b, wantd ops (F i) o = some b → Region.wanted o (yielded ops a.tmps) = b := fun b hb => wantd_ok J.fR (by rw [wantd_congr hslot]; exact hb)
  -- the slots that are looked at, cut to what was there
  have hbelslot : ∀ s ∈ o.looksAt ops, ∀ c, (F i)[s]? = some c → Bel (H i).length c := by
    intro s hs
    refine slot_bel tr hle (hF0 s) i (by omega) fun j oj hj hoj hd => ?_
    have hSj : S j = true := by
      rcases st.head j i oj o hj hi hoj ho with h | ⟨h, _⟩
      · exact ord_listed st.back hcl i o ho hr h
      · exact absurd hs ((Oper.apart_spec h).1 s hd)
    exact J.vb j hSj (by omega)
  have hrelcut : Rel (m.cut (G H N x k) (H i).length) ((G H N x k).take (H i).length) w := J.rel.cut (by rw [hgl]; exact hiN) fun b cs c hb hc hm e he => J.bel b c cs hc hm i (by omega) hb e he
  have hfrcut : FR (m.cut (G H N x k) (H i).length) ((G H N x k).take (H i).length) w (onlyAt (o.looksAt ops) (frS ops v S (F 0) N)) a := by
    refine ⟨by rw [onlyAt_length]; exact J.fR.len, fun s y z hy hz => ?_, J.fR.defers⟩
    by_cases hs : s ∈ o.looksAt ops
    · rw [onlyAt_in hs] at hy
      exact (J.fR.slot s y z hy hz).cut (by rw [hgl]; exact hiN) (hbelslot s hs y (by rw [← hslot s hs]; exact hy))
    · rw [onlyAt_out hs hy]; exact .any _
  have hcong : ∀ s ∈ o.looksAt ops, (F i)[s]? = (onlyAt (o.looksAt ops) (frS ops v S (F 0) N))[s]? := fun s hs => by rw [onlyAt_in hs, hslot s hs]
  -- calls in their one order
  have hxs : ∀ b, x = some b → b < (H k).length := fun b hb => Nat.lt_of_lt_of_le (tr.xlt b hb) (tr.len hle (Nat.zero_le _) J.kle)
  unfold wpOp
  rw [ho]
  simp only
  rcases hkind with ⟨hw, hv, hH⟩ | ⟨hw, hic, hh, hop, hrd⟩ | ⟨hw, hic, hlen, c, hthr, hev, hwr⟩
  · -- it is not carried out
    rw [hwd false hw]
    simp only [Bool.false_eq_true, if_false]
    have fin : ∀ k', k' ≤ N → G H N x k' = G H N x k → (∀ j (hj : j < ops.size), j < N → isCall ops[j] = true → (addTo S i j = true ↔ j < k')) → JH ops N x F H v m0 w0 (addTo S i) (a.put o.dst undef) w m k' := by
      intro k' hk' hG hkc
      refine ⟨hk', hkc, fun j hj => ?_, by rw [hG]; exact J.evo, by rw [hG]; exact J.rel, ?_, fun b c hl hm => ?_, fun b c cs hc => ?_, fun j hSj hj => ?_⟩
      · rw [addTo_ne (by omega)]; exact J.tail j hj
      · rw [frS_add ho hS N hi (late_dst st hcl ho hS), hv, hG]
        exact J.fR.put .no o.dst
      · rw [hG] at hl
        rcases J.dom b c hl hm with h | ⟨j, hSj, h⟩
        · exact .inl h
        · exact .inr ⟨j, addTo_of hSj, h⟩
      · rw [hG] at hc
        exact J.bel b c cs hc
      · by_cases hji : j = i
        · subst hji; rw [hv]; exact .rf rfl
        · rw [addTo_ne hji] at hSj; exact J.vb j hSj hj
    cases hic : isCall o with
    | false => exact ⟨m, k, fin k J.kle rfl (call_other J.kcall ho hic)⟩
    | true =>
      obtain ⟨hki, hno, hkc⟩ := call_order st J.kcall hcl hi ho hS hr hic
      refine ⟨m, i + 1, fin (i + 1) (by omega) ?_ hkc⟩
      unfold G
      split
      · rename_i b
        have h1 := tr.xsame hN hcall hle hki (by omega) (hxs b rfl) hno
        rw [List.getD_eq_getElem?_getD, List.getD_eq_getElem?_getD, hH, h1]
      · rfl
  · -- it reads, computes or makes memory
    rw [hwd true hw]
    simp only [if_true]
    have hgt := G_take hN hcall tr hle (by omega : i ≤ N) J.kle
    have hgt' := G_take hN hcall tr hle (by omega : i + 1 ≤ N) J.kle
    have hop2 : opV P cfg (F i) (Hx H x k i) o.op = some (v i, Hx H x k (i + 1)) := by
      unfold Hx
      split
      · rename_i b
        exact opV_set _ hh (hrd b rfl) (Nat.lt_of_lt_of_le (tr.xlt b rfl) hn0) hop
      · exact hop
    have hev : opEv P md call cfg (onlyAt (o.looksAt ops) (frS ops v S (F 0) N)) ((G H N x k).take (H i).length) o.op = some (v i, (G H N x k).take (H (i + 1)).length) := by
      rw [← opEv_congr (ev_congr hcong), opEv_nocall hic, hgt, hgt']
      exact hop2
    refine .inl ((opEv_ok hN hcall hev).1 _ w a hrelcut hfrcut _ Q fun u w' ⟨m', e, r', hru⟩ => ⟨_, k, jh_new st hN hcall tr J hcl hi ho hS J.kle (call_other J.kcall ho hic) e r' hru ?_⟩)
    intro b cc cs hb hx hc hm j hj hbj f hf
    have htk0 : ((G H N x k).take (H i).length).length = (H i).length := by rw [List.length_take, hgl]; omega
    have hnn := tr.len1 hle hi
    obtain ⟨_, h2⟩ := e.keep b (by rw [htk0]; exact hb) ((live_take' (by omega)).2 ⟨cs, hc⟩)
    rw [h2] at hm
    exact J.bel b cc cs hc (by simpa [Mu.cut, hb] using hm) j hj hbj f hf
  · -- it is a call
    rw [hwd true hw]
    simp only [if_true]
    obtain ⟨hki, hno, hkc⟩ := call_order st J.kcall hcl hi ho hS hr hic
    have hxi : ∀ b, x = some b → (H i)[b]? = (H k)[b]? := fun b hb => tr.xsame hN hcall hle hki (by omega) (hxs b hb) hno
    have hgt := G_take hN hcall tr hle (by omega : i ≤ N) J.kle
    rw [Hx_self tr hle (by omega) J.kle hxi] at hgt
    have hgt' := G_take hN hcall tr hle (by omega : i + 1 ≤ N) (by omega : i + 1 ≤ N)
    rw [Hx_self tr hle (by omega) (by omega) (fun b _ => rfl)] at hgt'
    have hev2 : opEv P md call c (onlyAt (o.looksAt ops) (frS ops v S (F 0) N)) ((G H N x k).take (H i).length) o.op = some (v i, (G H N x (i + 1)).take (H (i + 1)).length) := by
      rw [← opEv_congr (ev_congr hcong), hgt, hgt']
      exact hev
    refine .inl ((opEv_ok hN hcall hev2).1 _ w a hrelcut hfrcut _ Q fun u w' ⟨m', e, r', hru⟩ => ⟨_, i + 1, jh_new st hN hcall tr J hcl hi ho hS (by omega) hkc e r' hru ?_⟩)
    intro b cc cs hb hx hc hm j hj hbj f hf
    have htk0 : ((G H N x k).take (H i).length).length = (H i).length := by rw [List.length_take, hgl]; omega
    have hbN : b < (H N).length := by omega
    have hi1N := tr.len hle (by omega : i + 1 ≤ N) (Nat.le_refl N)
    have hc2 : (H (i + 1))[b]? = some (some cs) := by rw [← G_x (k := i + 1) hx hbN (by omega)]; exact hc
    rcases Nat.lt_or_ge i j with hij | hij
    · have htk : ((G H N x (i + 1)).take (H (i + 1)).length).length = (H (i + 1)).length := by rw [List.length_take, hgl]; omega
      have hbl := (r'.blk b cs cc (by rw [List.getElem?_take, if_pos (by omega)]; exact hc) hm).bel hf
      rw [htk] at hbl
      exact hbl.mono (tr.len hle hij hj)
    · have hjl := tr.len hle hij (by omega)
      have hinv : Inv (fun q => ∃ d, m q = some d) (H i) (H j).length := by
        rintro q cs' hq ⟨d, hd⟩ hcq g hg
        have hqi : q < (H i).length := by omega
        have hqc : (G H N x k)[q]? = some (some cs') := by
          have h3 : ((G H N x k).take (H i).length)[q]? = some (some cs') := by rw [hgt]; exact hcq
          rwa [List.getElem?_take, if_pos hqi] at h3
        exact J.bel q d cs' hqc hd j hj hq g hg
      have hinv2 := (tr.hs hN hcall hle hi).2.2 _ _ hjl hinv
      obtain ⟨_, h2⟩ := e.keep b (by rw [htk0]; exact hb) ((live_take' (by omega)).2 ⟨cs, hc⟩)
      rw [h2] at hm
      exact hinv2 b cs hbj ⟨cc, by simpa [Mu.cut, hb] using hm⟩ hc2 f hf
end
end Go.Ab
