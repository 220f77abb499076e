/- A call seen from outside: what is left of it is cut back, what it hands back is frozen. -/
import Derived.Test.YtcedojbifnangaaAbOp
namespace Go.Ab

section
variable {P : Program} {m : Mu} {h : Heap} {w : World}

theorem R.bel {x : V} {v : Value} (hr : R m h w x v) : Bel h.length x := by
  induction hr with
  | ptr hlt _ => exact .ptr hlt
  | sl hlt _ _ _ => exact .sl hlt
  | agg hl _ ih =>
    refine .agg fun c hc => ?_
    obtain ⟨i, hi, rfl⟩ := List.getElem_of_mem hc
    exact ih i _ _ (List.getElem?_eq_getElem hi) (Array.getElem?_eq_getElem (by omega))
  | tup hl _ ih =>
    refine .tup fun c hc => ?_
    obtain ⟨i, hi, rfl⟩ := List.getElem_of_mem hc
    exact ih i _ _ (List.getElem?_eq_getElem hi) (Array.getElem?_eq_getElem (by omega))
  | func hl _ hl' _ ih ih' =>
    refine .func (fun c hc => ?_) (fun c hc => ?_)
    · obtain ⟨i, hi, rfl⟩ := List.getElem_of_mem hc
      exact ih i _ _ (List.getElem?_eq_getElem hi) (Array.getElem?_eq_getElem (by omega))
    · obtain ⟨i, hi, rfl⟩ := List.getElem_of_mem hc
      exact ih' i _ _ (List.getElem?_eq_getElem hi) (Array.getElem?_eq_getElem (by omega))
  | iface _ ih => exact .iface ih
  | mref hlt _ => exact .mref hlt
  | _ => exact .rf rfl

theorem BR.bel {cs : List V} {b : Nat} (hb : BR m h w cs b) {c : V} (hc : c ∈ cs) : Bel h.length c := by
  rcases hb with ⟨arr, T, ha, hl, hr⟩ | ⟨k, e, l, es, clock, rfl, _, _⟩
  · obtain ⟨i, hi, rfl⟩ := List.getElem_of_mem hc
    obtain ⟨v, _, hv⟩ := hr i _ (List.getElem?_eq_getElem hi)
    exact hv.bel
  · rw [List.mem_singleton.1 hc]; exact .rf rfl

theorem live_take {h : Heap} {n x : Nat} (hl : live (h.take n) x) : x < n ∧ live h x := by
  obtain ⟨cs, hc⟩ := hl
  rw [List.getElem?_take] at hc
  split at hc
  · rename_i hx; exact ⟨hx, cs, hc⟩
  · cases hc

theorem Imm.take {n b : Nat} (hi : Imm m h w b) : Imm m (h.take n) w b := ⟨hi.1, hi.2.1, fun x hx => hi.2.2 x (live_take hx).2⟩

theorem R.take {n : Nat} (hn : n ≤ h.length) {x : V} {v : Value} (hr : R m h w x v) (hb : Bel n x) : R m (h.take n) w x v := by
  have hlen : (h.take n).length = n := by simp; omega
  induction hr with
  | any v => exact .any v
  | no => exact .no
  | bool b => exact .bool b
  | int k n => exact .int k n
  | str s => exact .str s
  | nilp => exact .nilp
  | ptr hlt hv =>
    cases hb with
    | rf h => simp [V.rf] at h
    | ptr hlt' => exact .ptr (by omega) fun hl => hv (live_take hl).2
  | lptr rv hi hc hf _ ih => exact .lptr rv hi.take hc hf fun i c hic => ih i c hic (.rf (hf i c hic))
  | nils => exact .nils
  | sl hlt hcap hlen hv =>
    cases hb with
    | rf h => simp [V.rf] at h
    | sl hlt' => exact .sl (by omega) hcap hlen fun hl => hv (live_take hl).2
  | lst0 a rc => exact .lst0 a rc
  | lst rv hi hrc hk hc hf _ ih => exact .lst rv hi.take hrc hk hc hf fun i e j c he hj => ih i e j c he hj (.rf (hf i e j c he hj))
  | agg hl _ ih =>
    cases hb with
    | rf h => simp [V.rf] at h
    | agg h => exact .agg hl fun i c v hc hv => ih i c v hc hv (h c (List.mem_of_getElem? hc))
  | tup hl _ ih =>
    cases hb with
    | rf h => simp [V.rf] at h
    | tup h => exact .tup hl fun i c v hc hv => ih i c v hc hv (h c (List.mem_of_getElem? hc))
  | func hl _ hl' _ ih ih' =>
    cases hb with
    | rf h => simp [V.rf] at h
    | func h h' => exact .func hl (fun i c v hc hv => ih i c v hc hv (h c (List.mem_of_getElem? hc))) hl' (fun i c v hc hv => ih' i c v hc hv (h' c (List.mem_of_getElem? hc)))
  | nilf => exact .nilf
  | nili => exact .nili
  | nilm => exact .nilm
  | iface _ ih =>
    cases hb with
    | rf h => simp [V.rf] at h
    | iface h => exact .iface (ih h)
  | mref hlt hv =>
    cases hb with
    | rf h => simp [V.rf] at h
    | mref hlt' => exact .mref (by omega) fun hl => hv (live_take hl).2

theorem mapM_some {f : V → Option V} : ∀ {xs ys : List V}, xs.mapM f = some ys → xs.length = ys.length ∧ ∀ (i : Nat) (y : V), ys[i]? = some y → ∃ x, xs[i]? = some x ∧ f x = some y
  | [], ys, hx => by simp at hx; subst hx; simp
  | x :: xs, ys, hx => by
    simp only [List.mapM_cons, Option.bind_eq_bind, Option.bind_eq_some_iff, Option.pure_def] at hx
    obtain ⟨y, h1, ys', h2, h3⟩ := hx
    cases h3
    obtain ⟨hl, ih⟩ := mapM_some h2
    refine ⟨by simp [hl], fun i z hz => ?_⟩
    cases i with
    | zero => simp at hz; subst hz; exact ⟨x, rfl, h1⟩
    | succ i => simpa using ih i z (by simpa using hz)

theorem chunk_length (k : Nat) : ∀ (n : Nat) (cs : List V), (chunk k n cs).length = n
  | 0, _ => rfl
  | n + 1, cs => by simp [chunk, chunk_length k n]

theorem chunk_get (k : Nat) : ∀ (n : Nat) (cs : List V) (i : Nat) (e : List V), n * k ≤ cs.length → (chunk k n cs)[i]? = some e → e.length = k ∧ i < n ∧ ∀ (j : Nat) (c : V), e[j]? = some c → cs[i * k + j]? = some c
  | 0, cs, i, e, _, he => by simp [chunk] at he
  | n + 1, cs, i, e, hl, he => by
    have hm : (n + 1) * k = n * k + k := by rw [Nat.add_mul, Nat.one_mul]
    cases i with
    | zero =>
      simp [chunk] at he
      subst he
      refine ⟨by simp; omega, by omega, fun j c hj => ?_⟩
      rw [List.getElem?_take] at hj
      split at hj
      · simpa using hj
      · cases hj
    | succ i =>
      simp only [chunk, List.getElem?_cons_succ] at he
      obtain ⟨h1, h2, h3⟩ := chunk_get k n (cs.drop k) i e (by simp; omega) he
      refine ⟨h1, by omega, fun j c hj => ?_⟩
      have := h3 j c hj
      rw [List.getElem?_drop] at this
      rw [show (i + 1) * k + j = k + (i * k + j) by rw [Nat.add_mul]; omega]
      exact this

theorem frz_ok (r : Rel m h w) {n : Nat} (hn : n ≤ h.length) : ∀ (d : Nat) {x y : V} {v : Value}, R m h w x v → frz h n d x = some y → R m (h.take n) w y v
  | 0, x, y, v, _, hf => by simp [frz] at hf
  | d + 1, x, y, v, hr, hf => by
    have hlen : (h.take n).length = n := by simp; omega
    simp only [frz] at hf
    split at hf
    · rename_i b off len cap k
      split at hf
      · rename_i hb
        cases hf
        exact hr.take hn (.sl hb)
      · rename_i hb
        split at hf
        · rename_i cs hbl
          split at hf
          · rename_i hle
            split at hf
            · rename_i cs' hcs'
              split at hf
              · rename_i hrf
                cases hf
                obtain ⟨b', rc, arr, T, hmb, rfl, hcap, hlrc, hsz, ha, hcl, hpt⟩ := hr.sl_at r hbl
                obtain ⟨hml, hmg⟩ := mapM_some hcs'
                have hlen2 : cs'.length = len * k := by rw [← hml]; simp; omega
                have hcell : ∀ (q : Nat) (c : V), cs'[q]? = some c → ∃ u, w.cell? ⟨b', off + q, none⟩ = some u ∧ R m (h.take n) w c u := by
                  intro q c hq
                  obtain ⟨c0, hc0, hfc⟩ := hmg q c hq
                  obtain ⟨u, hu, hur⟩ := (hpt.drop_take off (len * k)) q c0 hc0
                  rw [Nat.zero_add] at hu
                  exact ⟨u, hu, frz_ok r hn d hur hfc⟩
                by_cases h0 : len = 0
                · subst h0; exact .lst0 _ _
                · have himm : Imm m (h.take n) w b' := by
                    refine ⟨r.lt b b' ⟨cs, live_of_blockOf hbl⟩ hmb, r.zo b b' ⟨cs, live_of_blockOf hbl⟩ hmb, fun z hz hzb => ?_⟩
                    obtain ⟨hz1, hz2⟩ := live_take hz
                    have := r.inj z b b' hz2 ⟨cs, live_of_blockOf hbl⟩ hzb hmb
                    omega
                  have hcl2 : (chunk k len cs').length = len := chunk_length _ _ _
                  let rv : Nat → Nat → Value := fun i j => ((w.cell? ⟨b', off + (i * k + j), none⟩).getD undef)
                  have hrv : ∀ (i : Nat) (e : List V) (j : Nat) (c : V), (chunk k len cs')[i]? = some e → e[j]? = some c → w.cell? ⟨b', off + i * k + j, none⟩ = some (rv i j) ∧ R m (h.take n) w c (rv i j) ∧ c.rf = true := by
                    intro i e j c he hj
                    obtain ⟨_, _, h3⟩ := chunk_get k len cs' i e (by omega) he
                    have hq := h3 j c hj
                    obtain ⟨u, hu, hur⟩ := hcell _ c hq
                    have hre : rv i j = u := by simp [rv, hu]
                    refine ⟨by rw [hre, Nat.add_assoc]; exact hu, by rw [hre]; exact hur, List.all_eq_true.1 hrf c (List.mem_of_getElem? hq)⟩
                  have := R.lst (m := m) (h := h.take n) (w := w) (xs := chunk k len cs') (b := b') (o := off) (k := k) (rc := rc) rv himm (by omega)
                    (fun i e he => (chunk_get k len cs' i e (by omega) he).1) (fun i e j c he hj => (hrv i e j c he hj).1) (fun i e j c he hj => (hrv i e j c he hj).2.2) (fun i e j c he hj => (hrv i e j c he hj).2.1)
                  rwa [hcl2] at this
              · cases hf
            · cases hf
          · cases hf
        · cases hf
    · rename_i b off
      split at hf
      · rename_i hb; cases hf; exact hr.take hn (.ptr hb)
      · cases hf
    · rename_i b
      split at hf
      · rename_i hb; cases hf; exact hr.take hn (.mref hb)
      · cases hf
    · cases hf; cases hr; exact .lst0 _ _
    · rename_i cs
      split at hf
      · rename_i cs' hcs'
        cases hf
        obtain ⟨hml, hmg⟩ := mapM_some hcs'
        cases hr with
        | agg hl hr =>
          refine .agg (by omega) fun i c u hc hu => ?_
          obtain ⟨c0, hc0, hfc⟩ := hmg i c hc
          exact frz_ok r hn d (hr i c0 u hc0 hu) hfc
      · cases hf
    · rename_i cs
      split at hf
      · rename_i cs' hcs'
        cases hf
        obtain ⟨hml, hmg⟩ := mapM_some hcs'
        cases hr with
        | tup hl hr =>
          refine .tup (by omega) fun i c u hc hu => ?_
          obtain ⟨c0, hc0, hfc⟩ := hmg i c hc
          exact frz_ok r hn d (hr i c0 u hc0 hu) hfc
      · cases hf
    · cases hf; exact hr.take hn (.func (by simp) (by simp))
    · cases hf
    · cases hf
    · rename_i h1 h2 hm hnl h3 h4 h5 h6 h7
      cases hf
      refine hr.take hn (.rf ?_)
      cases x <;> first | rfl | (exact absurd rfl (h1 _ _ _ _ _)) | (exact absurd rfl (h2 _ _)) | (exact absurd rfl (hm _)) | (exact absurd rfl (h3 _)) | (exact absurd rfl (h4 _)) | (exact absurd rfl (h6 _ _ _)) | (exact absurd rfl (h7 _ _))

/-- A function's call, as the evaluator has it. -/
def CallOK (P : Program) (call : Callf) : Prop := ∀ cfg f args h r h', call cfg f args h = some (r, h') → HS cfg h h' ∧ (∃ fn, P.funcs[f]? = some fn ∧ fn.body.isNone = false) ∧
  ∀ m w vs, Rel m h w → PW m h w args vs → Calls P f vs w fun e w' => ∃ v, e = .returned v ∧ Out m h w r h' v w'

theorem Inv.of_rel (r : Rel m h w) : Inv (fun x => ∃ b, m x = some b) h h.length := by
  rintro x cs hx ⟨b, hb⟩ hc c hcc
  rcases r.blk x cs b hc hb with ⟨arr, T, ha, hl, hr⟩ | ⟨k, e, l, es, clock, rfl, _, _⟩
  · obtain ⟨i, hi, rfl⟩ := List.getElem_of_mem hcc
    obtain ⟨v, _, hv⟩ := hr i _ (List.getElem?_eq_getElem hi)
    exact hv.bel
  · rw [List.mem_singleton.1 hcc]; exact .rf rfl

/-- Cut back to what was there. -/
theorem Out.cut {x y : V} {h' : Heap} {v : Value} {w' : World} {cfg : Cfg} (r : Rel m h w) (hs : HS cfg h h') (hthr : h.length ≤ cfg.thr) (ho : Out m h w x h' v w') (hf : frz h' h.length 6 x = some y) :
    Out m h w y (h'.take h.length) v w' := by
  obtain ⟨m', e, r', hr⟩ := ho
  have hlen : (h'.take h.length).length = h.length := by have := hs.len; simp; omega
  have hinv := hs.inv _ _ hthr (Nat.le_refl _) (Inv.of_rel r)
  refine ⟨m', ⟨e.zeq, by omega, fun x hx hl => e.keep x hx (live_take hl).2, fun x b hl hb => e.own x b (live_take hl).2 hb, e.frame, e.size, e.rs, e.os, e.tape, e.output⟩,
    ⟨fun x b hl hb => r'.zo x b (live_take hl).2 hb, r'.zl, fun x y b hx hy => r'.inj x y b (live_take hx).2 (live_take hy).2, fun x cs b hx hb => ?_⟩, frz_ok r' hs.len 6 hr hf⟩
  have hx' : x < h.length ∧ h'[x]? = some (some cs) := by
    rw [List.getElem?_take] at hx
    split at hx
    · rename_i h1; exact ⟨h1, hx⟩
    · cases hx
  have hk := e.keep x hx'.1 ⟨cs, hx'.2⟩
  exact (r'.blk x cs b hx'.2 hb).carry rfl fun c u hcm hur => hur.take hs.len (hinv x cs hx'.1 ⟨b, hk.2 ▸ hb⟩ hx'.2 c hcm)

theorem HS.cut {cfg cfg' : Cfg} {h' : Heap} (hs : HS cfg' h h') (hthr : h.length ≤ cfg'.thr) (hw : ∀ b, b < h.length → cfg.wr b = false → cfg'.wr b = false) : HS cfg h (h'.take h.length) := by
  refine ⟨by have := hs.len; simp; omega, fun b hb hwb => ?_, fun D t _ h2 hi b cs hb hD hc c hcc => ?_⟩
  · rw [List.getElem?_take, if_pos hb]
    exact hs.prot b hb (hw b hb hwb)
  · rw [List.getElem?_take, if_pos (by omega)] at hc
    exact hs.inv D t (by omega) h2 hi b cs hb hD hc c hcc

theorem R.conv {m' : Mu} {h' : Heap} (hi : ∀ b, Imm m h w b → Imm m' h' w b) {x : V} {v : Value} (hr : R m h w x v) (hb : Bel 0 x) : R m' h' w x v := by
  induction hr with
  | any v => exact .any v
  | no => exact .no
  | bool b => exact .bool b
  | int k n => exact .int k n
  | str s => exact .str s
  | nilp => exact .nilp
  | ptr hlt hv =>
    cases hb with
    | rf h => simp [V.rf] at h
    | ptr hlt' => omega
  | lptr rv hm hc hf _ ih => exact .lptr rv (hi _ hm) hc hf fun i c hic => ih i c hic (.rf (hf i c hic))
  | nils => exact .nils
  | sl hlt hcap hlen hv =>
    cases hb with
    | rf h => simp [V.rf] at h
    | sl hlt' => omega
  | lst0 a rc => exact .lst0 a rc
  | lst rv hm hrc hk hc hf _ ih => exact .lst rv (hi _ hm) hrc hk hc hf fun i e j c he hj => ih i e j c he hj (.rf (hf i e j c he hj))
  | agg hl _ ih =>
    cases hb with
    | rf h => simp [V.rf] at h
    | agg h => exact .agg hl fun i c v hc hv => ih i c v hc hv (h c (List.mem_of_getElem? hc))
  | tup hl _ ih =>
    cases hb with
    | rf h => simp [V.rf] at h
    | tup h => exact .tup hl fun i c v hc hv => ih i c v hc hv (h c (List.mem_of_getElem? hc))
  | func hl _ hl' _ ih ih' =>
    cases hb with
    | rf h => simp [V.rf] at h
    | func h h' => exact .func hl (fun i c v hc hv => ih i c v hc hv (h c (List.mem_of_getElem? hc))) hl' (fun i c v hc hv => ih' i c v hc hv (h' c (List.mem_of_getElem? hc)))
  | nilf => exact .nilf
  | nili => exact .nili
  | nilm => exact .nilm
  | iface _ ih =>
    cases hb with
    | rf h => simp [V.rf] at h
    | iface h => exact .iface (ih h)
  | mref hlt hv =>
    cases hb with
    | rf h => simp [V.rf] at h
    | mref hlt' => omega

theorem R.unnil {x : V} {v : Value} (hr : R m h w x v) : R m h w (unnil x) v := by
  cases hr <;> first | exact .lst0 _ _ | (simp only [Ab.unnil]; constructor <;> assumption)

theorem bel_noref {x : V} (hx : x.noref = true) : Bel 0 x := by
  have key : ∀ cs : List V, cs.all V.rf = true → ∀ c ∈ cs, Bel 0 c := fun cs h c hc => .rf (List.all_eq_true.1 h c hc)
  cases x <;> first
    | (simp [V.noref, V.rf] at hx; done)
    | exact .rf rfl
    | exact .agg (key _ hx)
    | exact .tup (key _ hx)
    | (simp only [V.noref, Bool.and_eq_true] at hx; exact .func (key _ hx.1) (key _ hx.2))

theorem rel_empty (r : Rel m h w) : Rel m [] w :=
  ⟨fun _ _ h _ => by obtain ⟨cs, hc⟩ := h; simp at hc, r.zl, fun _ _ _ h => by obtain ⟨cs, hc⟩ := h; simp at hc, fun _ _ _ h => by simp at h⟩

theorem no_live {x : Nat} (hl : live [] x) : False := by obtain ⟨cs, hc⟩ := hl; simp at hc

/-- What began over an empty heap has changed nothing that was there. -/
theorem kept_empty {m0 m' : Mu} {h' : Heap} {w' : World} (r : Rel m h w) (e : Evo m0 [] w m' h' w') : Evo m h w m h w' ∧ Rel m h w' := by
  have hfr : ∀ b, b < w.heap.size → w'.heap[b]? = w.heap[b]? := fun b hb => e.frame b hb fun x hl => (no_live hl).elim
  have ev : Evo m h w m h w' := ⟨rfl, Nat.le_refl _, fun x _ hl => ⟨hl, rfl⟩, fun x b hl hb => .inl ⟨x, hl, hb⟩, fun b hb _ => hfr b hb, e.size, e.rs, e.os, e.tape, e.output⟩
  refine ⟨ev, r.zo, fun b hz => Nat.lt_of_lt_of_le (r.zl b hz) e.size, r.inj, fun x cs b hc hb => ?_⟩
  exact (r.blk x cs b hc hb).carry (hfr b (r.lt x b ⟨cs, hc⟩ hb)) fun c v _ hvr => hvr.evo ev r.lt

theorem frz_own {m' : Mu} {h' : Heap} {w' : World} (r : Rel m' h' w') (hfresh : ∀ x b, live h' x → m' x = some b → Imm m h w' b) :
    ∀ (d : Nat) {x y : V} {v : Value}, R m' h' w' x v → own h' d x = true → frz h' 0 d x = some y → R m h w' y v
  | 0, x, y, v, _, ho, hf => by simp [frz] at hf
  | d + 1, x, y, v, hr, ho, hf => by
    simp only [frz] at hf
    split at hf
    · rename_i b off len cap k
      split at hf
      · omega
      · split at hf
        · rename_i cs hbl
          simp only [own, hbl] at ho
          split at hf
          · rename_i hle
            split at hf
            · rename_i cs' hcs'
              split at hf
              · rename_i hrf
                cases hf
                obtain ⟨b', rc, arr, T, hmb, rfl, hcap, hlrc, hsz, ha, hcl, hpt⟩ := hr.sl_at r hbl
                obtain ⟨hml, hmg⟩ := mapM_some hcs'
                have hlen2 : cs'.length = len * k := by rw [← hml]; simp; omega
                have hcell : ∀ (q : Nat) (c : V), cs'[q]? = some c → ∃ u, w'.cell? ⟨b', off + q, none⟩ = some u ∧ R m h w' c u := by
                  intro q c hq
                  obtain ⟨c0, hc0, hfc⟩ := hmg q c hq
                  obtain ⟨u, hu, hur⟩ := (hpt.drop_take off (len * k)) q c0 hc0
                  rw [Nat.zero_add] at hu
                  exact ⟨u, hu, frz_own r hfresh d hur (List.all_eq_true.1 ho c0 (List.mem_of_getElem? hc0)) hfc⟩
                by_cases h0 : len = 0
                · subst h0; exact .lst0 _ _
                · have himm : Imm m h w' b' := hfresh b b' ⟨cs, live_of_blockOf hbl⟩ hmb
                  have hcl2 : (chunk k len cs').length = len := chunk_length _ _ _
                  let rv : Nat → Nat → Value := fun i j => ((w'.cell? ⟨b', off + (i * k + j), none⟩).getD undef)
                  have hrv : ∀ (i : Nat) (e : List V) (j : Nat) (c : V), (chunk k len cs')[i]? = some e → e[j]? = some c → w'.cell? ⟨b', off + i * k + j, none⟩ = some (rv i j) ∧ R m h w' c (rv i j) ∧ c.rf = true := by
                    intro i e j c he hj
                    obtain ⟨_, _, h3⟩ := chunk_get k len cs' i e (by omega) he
                    have hq := h3 j c hj
                    obtain ⟨u, hu, hur⟩ := hcell _ c hq
                    have hre : rv i j = u := by simp [rv, hu]
                    refine ⟨by rw [hre, Nat.add_assoc]; exact hu, by rw [hre]; exact hur, List.all_eq_true.1 hrf c (List.mem_of_getElem? hq)⟩
                  have := R.lst (m := m) (h := h) (w := w') (xs := chunk k len cs') (b := b') (o := off) (k := k) (rc := rc) rv himm (by omega)
                    (fun i e he => (chunk_get k len cs' i e (by omega) he).1) (fun i e j c he hj => (hrv i e j c he hj).1) (fun i e j c he hj => (hrv i e j c he hj).2.2) (fun i e j c he hj => (hrv i e j c he hj).2.1)
                  rwa [hcl2] at this
              · cases hf
            · cases hf
          · cases hf
        · cases hf
    · simp [own] at ho
    · simp [own] at ho
    · cases hf; cases hr; exact .lst0 _ _
    · rename_i cs
      simp only [own] at ho
      split at hf
      · rename_i cs' hcs'
        cases hf
        obtain ⟨hml, hmg⟩ := mapM_some hcs'
        cases hr with
        | agg hl hr =>
          refine .agg (by omega) fun i c u hc hu => ?_
          obtain ⟨c0, hc0, hfc⟩ := hmg i c hc
          exact frz_own r hfresh d (hr i c0 u hc0 hu) (List.all_eq_true.1 ho c0 (List.mem_of_getElem? hc0)) hfc
      · cases hf
    · rename_i cs
      simp only [own] at ho
      split at hf
      · rename_i cs' hcs'
        cases hf
        obtain ⟨hml, hmg⟩ := mapM_some hcs'
        cases hr with
        | tup hl hr =>
          refine .tup (by omega) fun i c u hc hu => ?_
          obtain ⟨c0, hc0, hfc⟩ := hmg i c hc
          exact frz_own r hfresh d (hr i c0 u hc0 hu) (List.all_eq_true.1 ho c0 (List.mem_of_getElem? hc0)) hfc
      · cases hf
    · simp [own] at ho
    · simp [own] at ho
    · simp [own] at ho
    · rename_i h1 h2 hm hnl h3 h4 h5 h6 h7
      cases hf
      cases hr with
      | any _ => simp [own] at ho
      | no => exact .no
      | bool _ => exact .bool _
      | int _ _ => exact .int _ _
      | str _ => exact .str _
      | nilp => exact .nilp
      | ptr _ _ => exact absurd rfl (h2 _ _)
      | lptr _ _ _ _ _ => simp [own] at ho
      | nils => exact absurd rfl hnl
      | sl _ _ _ _ => exact absurd rfl (h1 _ _ _ _ _)
      | lst0 a rc => exact .lst0 a rc
      | lst rv hi hrc hk hc hf hr =>
        rename_i xs _ _ _ _
        cases xs with
        | nil => exact .lst0 _ _
        | cons _ _ => simp [own] at ho
      | agg _ _ => exact absurd rfl (h3 _)
      | tup _ _ => exact absurd rfl (h4 _)
      | func _ _ _ _ => exact absurd rfl (h6 _ _ _)
      | nilf => exact .nilf
      | nili => exact .nili
      | nilm => exact .nilm
      | iface _ => exact absurd rfl (h7 _ _)
      | mref _ _ => exact absurd rfl (hm _)

theorem callM_ok {md : FuncId → Nat} {call : Callf} (hcall : CallOK P call) {cfg : Cfg} {f : FuncId} {args : List V} {h : Heap} {x : V} {h' : Heap} (hx : callM md call cfg f args h = some (x, h')) :
    HS cfg h h' ∧ (∃ fn, P.funcs[f]? = some fn ∧ fn.body.isNone = false) ∧ ∀ m w vs, Rel m h w → PW m h w args vs → Calls P f vs w fun e w' => ∃ v, e = .returned v ∧ Out m h w x h' v w' := by
  unfold callM at hx
  split at hx
  · split at hx
    · rename_i hall
      split at hx
      · rename_i r h2 hc
        split at hx
        · rename_i r' hf
          simp only [Option.some.injEq, Prod.mk.injEq] at hx
          obtain ⟨rfl, rfl⟩ := hx
          obtain ⟨hs, hfn, hsound⟩ := hcall _ _ _ _ _ _ hc
          refine ⟨.refl _ _, hfn, fun m w vs hr hp => ?_⟩
          let m0 : Mu := ⟨fun _ => none, fun b => b < w.heap.size ∧ (m.z b ∨ ∃ x, live h x ∧ m x = some b)⟩
          have r0 : Rel m0 [] w := ⟨fun _ _ h _ => (no_live h).elim, fun b hb => hb.1, fun _ _ _ h => (no_live h).elim, fun _ _ _ h => by simp at h⟩
          have hi0 : ∀ b, Imm m h w b → Imm m0 [] w b := by
            rintro b ⟨h1, h2, h3⟩
            refine ⟨h1, ?_, fun x hl => (no_live hl).elim⟩
            rintro ⟨_, hz | ⟨x, hl, hb⟩⟩
            · exact h2 hz
            · exact h3 x hl hb
          have hp0 : PW m0 [] w args vs := ⟨hp.1, fun i c v hc hv => (hp.2 i c v hc hv).conv hi0 (bel_noref (List.all_eq_true.1 hall c (List.mem_of_getElem? hc)))⟩
          refine (hsound m0 w vs r0 hp0).mono ?_
          rintro e w' ⟨v, he, m', ev, r', hvr⟩
          obtain ⟨ev', rl'⟩ := kept_empty hr ev
          have hfz := frz_ok r' (Nat.zero_le _) 6 hvr hf
          rw [List.take_zero] at hfz
          refine ⟨v, he, m, ev', rl', hfz.conv (fun b hb => ?_) hfz.bel⟩
          obtain ⟨h1, h2, _⟩ := hb
          rw [ev.zeq] at h2
          refine ⟨h1, fun hz => h2 ⟨hr.zl b hz, .inl hz⟩, fun x hl hxb => h2 ⟨hr.lt x b hl hxb, .inr ⟨x, hl, hxb⟩⟩⟩
        · cases hx
      · cases hx
    · split at hx
      · rename_i r h2 hc
        split at hx
        · rename_i r' hf
          simp only [Option.some.injEq, Prod.mk.injEq] at hx
          obtain ⟨rfl, rfl⟩ := hx
          obtain ⟨hs, hfn, hsound⟩ := hcall _ _ _ _ _ _ hc
          refine ⟨hs.cut (Nat.le_refl _) fun b hb _ => ?_, hfn, fun m w vs hr hp => (hsound m w vs hr hp).mono ?_⟩
          · simp [Cfg.wr]; omega
          · rintro e w' ⟨v, he, ho⟩
            exact ⟨v, he, ho.cut hr hs (Nat.le_refl _) hf⟩
        · cases hx
      · cases hx
  · split at hx
    · rename_i r h2 hc
      split at hx
      · rename_i r' hf
        simp only [Option.some.injEq, Prod.mk.injEq] at hx
        obtain ⟨rfl, rfl⟩ := hx
        obtain ⟨hs, hfn, hsound⟩ := hcall _ _ _ _ _ _ hc
        refine ⟨hs.cut (Nat.le_refl _) fun b _ hw => hw, hfn, fun m w vs hr hp => (hsound m w vs hr hp).mono ?_⟩
        rintro e w' ⟨v, he, ho⟩
        exact ⟨v, he, ho.cut hr hs (Nat.le_refl _) hf⟩
      · cases hx
    · cases hx
  · split at hx
    · cases hx
    · rename_i args' hargs
      split at hx
      · rename_i r h2 hc
        split at hx
        · rename_i hown
          split at hx
          · rename_i r' hf
            simp only [Option.some.injEq, Prod.mk.injEq] at hx
            obtain ⟨rfl, rfl⟩ := hx
            obtain ⟨hs, hfn, hsound⟩ := hcall _ _ _ _ _ _ hc
            refine ⟨.refl _ _, hfn, fun m w vs hr hp => ?_⟩
            obtain ⟨hml, hmg⟩ := mapM_some hargs
            have hp0 : PW m [] w args' vs := by
              refine ⟨by rw [← hml]; exact hp.1, fun i c v hc hv => ?_⟩
              obtain ⟨c0, hc0, hfc⟩ := hmg i c hc
              simp only [frzA, Option.map_eq_some_iff] at hfc
              obtain ⟨c1, hfc, rfl⟩ := hfc
              have := frz_ok hr (Nat.zero_le _) 6 (hp.2 i c0 v hc0 hv) hfc
              rw [List.take_zero] at this
              exact this.unnil
            refine (hsound m w vs (rel_empty hr) hp0).mono ?_
            rintro e w' ⟨v, he, m', ev, r', hvr⟩
            obtain ⟨ev', rl'⟩ := kept_empty hr ev
            refine ⟨v, he, m, ev', rl', frz_own r' (fun x b hl hb => ?_) 6 hvr hown hf⟩
            have hge : w.heap.size ≤ b := by
              rcases ev.own x b hl hb with ⟨y, hy, _⟩ | hge
              · exact (no_live hy).elim
              · exact hge
            refine ⟨r'.lt x b hl hb, fun hz => ?_, fun y hy hyb => ?_⟩
            · have := hr.zl b hz; omega
            · have := hr.lt y b hy hyb; omega
          · cases hx
        · cases hx
      · cases hx
  · exact hcall _ _ _ _ _ _ hx
end
end Go.Ab
