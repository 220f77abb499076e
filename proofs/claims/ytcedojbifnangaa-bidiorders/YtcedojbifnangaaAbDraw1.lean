/- For regions that draw their order: a part of the heap looked at by itself, and put back. -/
import Derived.Test.YtcedojbifnangaaAbCode
namespace Go.Ab

/-- What is kept, weaker than Evo: a block that was not there for the world may come to be there. -/
structure Evw (m : Mu) (h : Heap) (w : World) (m' : Mu) (h' : Heap) (w' : World) : Prop where
  zeq : m'.z = m.z
  len : h.length ≤ h'.length
  keep : ∀ x, x < h.length → live h' x → live h x ∧ ∀ b, m x = some b → m' x = some b
  own : ∀ (x b : Nat), live h' x → m' x = some b → (∃ y, live h y ∧ m y = some b) ∨ w.heap.size ≤ b
  frame : ∀ b, b < w.heap.size → (∀ x, live h x → m x ≠ some b) → w'.heap[b]? = w.heap[b]?
  size : w.heap.size ≤ w'.heap.size
  rs : ∀ b, b < w.heap.size → rsz w b ≤ rsz w' b

section
variable {m m' : Mu} {h h' : Heap} {w w' : World}

theorem Imm.evw {b : Nat} (e : Evw m h w m' h' w') (hi : Imm m h w b) : Imm m' h' w' b := by
  refine ⟨Nat.lt_of_lt_of_le hi.1 e.size, by rw [e.zeq]; exact hi.2.1, fun x hl hx => ?_⟩
  rcases e.own x b hl hx with ⟨y, hy, hyb⟩ | hge
  · exact hi.2.2 y hy hyb
  · exact absurd hi.1 (Nat.not_lt.2 hge)

theorem Imm.cellw {b : Nat} (e : Evw m h w m' h' w') (hi : Imm m h w b) (o : Nat) : w'.cell? ⟨b, o, none⟩ = w.cell? ⟨b, o, none⟩ :=
  cell?_of_block (e.frame b hi.1 hi.2.2) o

theorem R.evw (e : Evw m h w m' h' w') (hown : ∀ (x b : Nat), live h x → m x = some b → b < w.heap.size) {x : V} {v : Value} (hr : R m h w x v) : R m' h' w' x v := by
  induction hr with
  | any v => exact .any v
  | no => exact .no
  | bool b => exact .bool b
  | int k n => exact .int k n
  | str s => exact .str s
  | nilp => exact .nilp
  | ptr hlt hv =>
    refine .ptr (Nat.lt_of_lt_of_le hlt e.len) fun hl => ?_
    obtain ⟨hl0, hm⟩ := e.keep _ hlt hl
    obtain ⟨b, hb, hvb⟩ := hv hl0
    exact ⟨b, hm b hb, hvb⟩
  | lptr rv hi hc hf _ ih => exact .lptr rv (hi.evw e) (fun i c hic => (hi.cellw e _).trans (hc i c hic)) hf ih
  | nils => exact .nils
  | sl hlt hcap hlen hv =>
    refine .sl (Nat.lt_of_lt_of_le hlt e.len) hcap hlen fun hl => ?_
    obtain ⟨hl0, hm⟩ := e.keep _ hlt hl
    obtain ⟨b, hb, hvb, hs⟩ := hv hl0
    exact ⟨b, hm b hb, hvb, Nat.le_trans hs (e.rs b (hown _ _ hl0 hb))⟩
  | lst0 a rc => exact .lst0 a rc
  | lst rv hi hrc hk hc hf _ ih => exact .lst rv (hi.evw e) hrc hk (fun i x j c hx hj => (hi.cellw e _).trans (hc i x j c hx hj)) hf ih
  | agg hl _ ih => exact .agg hl ih
  | tup hl _ ih => exact .tup hl ih
  | func hl _ hl' _ ih ih' => exact .func hl ih hl' ih'
  | nilf => exact .nilf
  | nili => exact .nili
  | nilm => exact .nilm
  | iface _ ih => exact .iface ih
  | mref hlt hv =>
    refine .mref (Nat.lt_of_lt_of_le hlt e.len) fun hl => ?_
    obtain ⟨hl0, hm⟩ := e.keep _ hlt hl
    exact hm _ (hv hl0)
end

section
variable {m : Mu} {g : Heap} {w : World}

/-- Only the blocks below n; those from n on are somebody else's. -/
def Mu.cut (m : Mu) (g : Heap) (n : Nat) : Mu := { f := fun x => if x < n then m x else none, z := fun b => m.z b ∨ ∃ x, n ≤ x ∧ live g x ∧ m x = some b }

theorem live_take' {n x : Nat} (hx : x < n) : live (g.take n) x ↔ live g x := by
  simp [live, List.getElem?_take, hx]

theorem Imm.cut {n b : Nat} (hi : Imm m g w b) : Imm (m.cut g n) (g.take n) w b := by
  refine ⟨hi.1, ?_, fun x hx hxb => ?_⟩
  · rintro (h | ⟨x, _, h2, h3⟩)
    · exact hi.2.1 h
    · exact hi.2.2 x h2 h3
  · obtain ⟨h1, h2⟩ := live_take hx
    simp only [Mu.cut, h1, if_true] at hxb
    exact hi.2.2 x h2 hxb

theorem R.cut {n : Nat} (hn : n ≤ g.length) {x : V} {v : Value} (hr : R m g w x v) (hb : Bel n x) : R (m.cut g n) (g.take n) w x v := by
  have hlen : (g.take n).length = n := by simp; omega
  induction hr with
  | any v => exact .any v
  | no => exact .no
  | bool b => exact .bool b
  | int k n => exact .int k n
  | str s => exact .str s
  | nilp => exact .nilp
  | ptr hlt hv =>
    cases hb with
    | rf h => simp [V.rf] at h
    | ptr hlt' =>
      refine .ptr (by omega) fun hl => ?_
      obtain ⟨b, h1, h2⟩ := hv (live_take hl).2
      exact ⟨b, by simp [Mu.cut, hlt', h1], h2⟩
  | lptr rv hi hc hf _ ih => exact .lptr rv hi.cut hc hf fun i c hic => ih i c hic (.rf (hf i c hic))
  | nils => exact .nils
  | sl hlt hcap hlen hv =>
    cases hb with
    | rf h => simp [V.rf] at h
    | sl hlt' =>
      refine .sl (by omega) hcap hlen fun hl => ?_
      obtain ⟨b, h1, h2, h3⟩ := hv (live_take hl).2
      exact ⟨b, by simp [Mu.cut, hlt', h1], h2, h3⟩
  | lst0 a rc => exact .lst0 a rc
  | lst rv hi hrc hk hc hf _ ih => exact .lst rv hi.cut hrc hk hc hf fun i e j c he hj => ih i e j c he hj (.rf (hf i e j c he hj))
  | agg hl _ ih =>
    cases hb with
    | rf h => simp [V.rf] at h
    | agg h => exact .agg hl fun i c v hc hv => ih i c v hc hv (h c (List.mem_of_getElem? hc))
  | tup hl _ ih =>
    cases hb with
    | rf h => simp [V.rf] at h
    | tup h => exact .tup hl fun i c v hc hv => ih i c v hc hv (h c (List.mem_of_getElem? hc))
  | func hl _ hl' _ ih ih' =>
    cases hb with
    | rf h => simp [V.rf] at h
    | func h h' => exact .func hl (fun i c v hc hv => ih i c v hc hv (h c (List.mem_of_getElem? hc))) hl' (fun i c v hc hv => ih' i c v hc hv (h' c (List.mem_of_getElem? hc)))
  | nilf => exact .nilf
  | nili => exact .nili
  | nilm => exact .nilm
  | iface _ ih =>
    cases hb with
    | rf h => simp [V.rf] at h
    | iface h => exact .iface (ih h)
  | mref hlt hv =>
    cases hb with
    | rf h => simp [V.rf] at h
    | mref hlt' => exact .mref (by omega) fun hl => by simp [Mu.cut, hlt', hv (live_take hl).2]

theorem Rel.cut {n : Nat} (hn : n ≤ g.length) (r : Rel m g w) (hb : ∀ x cs b, x < n → g[x]? = some (some cs) → m x = some b → ∀ c ∈ cs, Bel n c) : Rel (m.cut g n) (g.take n) w := by
  have hm : ∀ x b, x < n → (m.cut g n) x = some b → m x = some b := fun x b hx hxb => by simpa [Mu.cut, hx] using hxb
  refine ⟨fun x b hl hxb => ?_, fun b hz => ?_, fun x y b hx hy hbx hby => ?_, fun x cs b hx hxb => ?_⟩
  · obtain ⟨h1, h2⟩ := live_take hl
    have h3 := hm x b h1 hxb
    rintro (h | ⟨y, h4, h5, h6⟩)
    · exact r.zo x b h2 h3 h
    · have := r.inj x y b h2 h5 h3 h6; omega
  · rcases hz with h | ⟨y, _, h5, h6⟩
    · exact r.zl b h
    · exact r.lt y b h5 h6
  · obtain ⟨h1, h2⟩ := live_take hx
    obtain ⟨h3, h4⟩ := live_take hy
    exact r.inj x y b h2 h4 (hm x b h1 hbx) (hm y b h3 hby)
  · obtain ⟨h1, h2⟩ := live_take ⟨cs, hx⟩
    rw [List.getElem?_take, if_pos h1] at hx
    have h3 := hm x b h1 hxb
    exact (r.blk x cs b hx h3).carry rfl fun c v hcm hrv => hrv.cut hn (hb x cs b h1 hx h3 c hcm)

/-- What was looked at by itself, put back among the others: n, n': how many blocks were looked at, before and after. -/
def Mu.glue (m m' : Mu) (n' : Nat) : Mu := { f := fun x => if x < n' then m' x else m x, z := m.z }

section
variable {m' : Mu} {g' : Heap} {w' : World} {n n' : Nat}

theorem Imm.glue (hz : m'.z = (m.cut g n).z) (hnn : n ≤ n') (hsame : ∀ x, n' ≤ x → g'[x]? = g[x]?) {b : Nat} (hi : Imm m' (g'.take n') w' b) : Imm (m.glue m' n') g' w' b := by
  refine ⟨hi.1, fun h => hi.2.1 (by rw [hz]; exact .inl h), fun x hx hxb => ?_⟩
  by_cases hxn : x < n'
  · simp only [Mu.glue, hxn, if_true] at hxb
    exact hi.2.2 x ((live_take' hxn).2 hx) hxb
  · simp only [Mu.glue, hxn, if_false] at hxb
    obtain ⟨cs, hc⟩ := hx
    rw [hsame x (by omega)] at hc
    exact hi.2.1 (by rw [hz]; exact .inr ⟨x, by omega, ⟨cs, hc⟩, hxb⟩)

theorem R.glue (hz : m'.z = (m.cut g n).z) (hnn : n ≤ n') (hsame : ∀ x, n' ≤ x → g'[x]? = g[x]?) (hlen : n' ≤ g'.length) {x : V} {v : Value} (hr : R m' (g'.take n') w' x v) : R (m.glue m' n') g' w' x v := by
  have hl' : (g'.take n').length = n' := by simp; omega
  induction hr with
  | any v => exact .any v
  | no => exact .no
  | bool b => exact .bool b
  | int k n => exact .int k n
  | str s => exact .str s
  | nilp => exact .nilp
  | ptr hlt hv =>
    rw [hl'] at hlt
    refine .ptr (by omega) fun hl => ?_
    obtain ⟨b, h1, h2⟩ := hv ((live_take' hlt).2 hl)
    exact ⟨b, by simp [Mu.glue, hlt, h1], h2⟩
  | lptr rv hi hc hf _ ih => exact .lptr rv (hi.glue hz hnn hsame) hc hf ih
  | nils => exact .nils
  | sl hlt hcap hlen hv =>
    rw [hl'] at hlt
    refine .sl (by omega) hcap hlen fun hl => ?_
    obtain ⟨b, h1, h2, h3⟩ := hv ((live_take' hlt).2 hl)
    exact ⟨b, by simp [Mu.glue, hlt, h1], h2, h3⟩
  | lst0 a rc => exact .lst0 a rc
  | lst rv hi hrc hk hc hf _ ih => exact .lst rv (hi.glue hz hnn hsame) hrc hk hc hf ih
  | agg hl _ ih => exact .agg hl ih
  | tup hl _ ih => exact .tup hl ih
  | func hl _ hl' _ ih ih' => exact .func hl ih hl' ih'
  | nilf => exact .nilf
  | nili => exact .nili
  | nilm => exact .nilm
  | iface _ ih => exact .iface ih
  | mref hlt hv =>
    rw [hl'] at hlt
    exact .mref (by omega) fun hl => by simp [Mu.glue, hlt, hv ((live_take' hlt).2 hl)]

theorem evw_glue (r : Rel m g w) (hn : n ≤ g.length) (hnn : n ≤ n') (hlen : g'.length = g.length) (hsame : ∀ x, n' ≤ x → g'[x]? = g[x]?) (hnew : ∀ x, n ≤ x → x < n' → live g' x → live g x ∧ m x = none)
    (e : Evo (m.cut g n) (g.take n) w m' (g'.take n') w') : Evw m g w (m.glue m' n') g' w' where
  zeq := rfl
  len := by omega
  keep := fun x hx hl => by
    by_cases hxn : x < n
    · obtain ⟨h1, h2⟩ := e.keep x (by simp; omega) ((live_take' (by omega)).2 hl)
      refine ⟨(live_take h1).2, fun b hb => ?_⟩
      simp only [Mu.glue, show x < n' by omega, if_true, h2]
      simpa [Mu.cut, hxn] using hb
    · by_cases hxn' : x < n'
      · obtain ⟨h1, h2⟩ := hnew x (by omega) hxn' hl
        exact ⟨h1, fun b hb => by rw [h2] at hb; cases hb⟩
      · obtain ⟨cs, hc⟩ := hl
        rw [hsame x (by omega)] at hc
        exact ⟨⟨cs, hc⟩, fun b hb => by simp [Mu.glue, hxn', hb]⟩
  own := fun x b hl hb => by
    by_cases hxn' : x < n'
    · simp only [Mu.glue, hxn', if_true] at hb
      rcases e.own x b ((live_take' hxn').2 hl) hb with ⟨y, hy, hyb⟩ | hge
      · obtain ⟨h1, h2⟩ := live_take hy
        exact .inl ⟨y, h2, by simpa [Mu.cut, h1] using hyb⟩
      · exact .inr hge
    · simp only [Mu.glue, hxn', if_false] at hb
      obtain ⟨cs, hc⟩ := hl
      rw [hsame x (by omega)] at hc
      exact .inl ⟨x, ⟨cs, hc⟩, hb⟩
  frame := fun b hb hn => e.frame b hb fun x hx hxb => by
    obtain ⟨h1, h2⟩ := live_take hx
    exact hn x h2 (by simpa [Mu.cut, h1] using hxb)
  size := e.size
  rs := e.rs

theorem rel_glue (r : Rel m g w) (hn : n ≤ g.length) (hnn : n ≤ n') (hlen : g'.length = g.length) (hn' : n' ≤ g.length) (hsame : ∀ x, n' ≤ x → g'[x]? = g[x]?) (hnew : ∀ x, n ≤ x → x < n' → live g' x → live g x ∧ m x = none)
    (e : Evo (m.cut g n) (g.take n) w m' (g'.take n') w') (r' : Rel m' (g'.take n') w') : Rel (m.glue m' n') g' w' := by
  have ew := evw_glue r hn hnn hlen hsame hnew e
  have hz := e.zeq
  have hlow : ∀ x b, x < n' → live g' x → (m.glue m' n') x = some b → live (g'.take n') x ∧ m' x = some b := fun x b hx hl hb => ⟨(live_take' hx).2 hl, by simpa [Mu.glue, hx] using hb⟩
  have hhigh : ∀ x b, ¬ x < n' → live g' x → (m.glue m' n') x = some b → live g x ∧ m x = some b := fun x b hx hl hb => by
    obtain ⟨cs, hc⟩ := hl
    rw [hsame x (by omega)] at hc
    exact ⟨⟨cs, hc⟩, by simpa [Mu.glue, hx] using hb⟩
  have hmix : ∀ x y b, x < n' → ¬ y < n' → live g' x → live g' y → (m.glue m' n') x = some b → (m.glue m' n') y = some b → False := by
    intro x y b hx hy hlx hly hbx hby
    obtain ⟨h1, h2⟩ := hlow x b hx hlx hbx
    obtain ⟨h3, h4⟩ := hhigh y b hy hly hby
    exact r'.zo x b h1 h2 (by rw [hz]; exact .inr ⟨y, by omega, h3, h4⟩)
  refine ⟨fun x b hl hb => ?_, fun b hb => Nat.lt_of_lt_of_le (r.zl b hb) e.size, fun x y b hx hy hbx hby => ?_, fun x cs b hx hb => ?_⟩
  · by_cases hxn : x < n'
    · obtain ⟨h1, h2⟩ := hlow x b hxn hl hb
      exact fun h => r'.zo x b h1 h2 (by rw [hz]; exact .inl h)
    · obtain ⟨h1, h2⟩ := hhigh x b hxn hl hb
      exact r.zo x b h1 h2
  · by_cases hxn : x < n'
    · by_cases hyn : y < n'
      · obtain ⟨h1, h2⟩ := hlow x b hxn hx hbx
        obtain ⟨h3, h4⟩ := hlow y b hyn hy hby
        exact r'.inj x y b h1 h3 h2 h4
      · exact (hmix x y b hxn hyn hx hy hbx hby).elim
    · by_cases hyn : y < n'
      · exact (hmix y x b hyn hxn hy hx hby hbx).elim
      · obtain ⟨h1, h2⟩ := hhigh x b hxn hx hbx
        obtain ⟨h3, h4⟩ := hhigh y b hyn hy hby
        exact r.inj x y b h1 h3 h2 h4
  · by_cases hxn : x < n'
    · obtain ⟨h1, h2⟩ := hlow x b hxn ⟨cs, hx⟩ hb
      exact (r'.blk x cs b (by rw [List.getElem?_take, if_pos hxn]; exact hx) h2).carry rfl fun c v _ hrv => hrv.glue hz hnn hsame (by omega)
    · obtain ⟨h1, h2⟩ := hhigh x b hxn ⟨cs, hx⟩ hb
      rw [hsame x (by omega)] at hx
      refine (r.blk x cs b hx h2).carry (e.frame b (r.lt x b h1 h2) (fun y hy hyb => ?_)) fun c v _ hrv => hrv.evw ew r.lt
      obtain ⟨h3, h4⟩ := live_take hy
      have := r.inj x y b h1 h4 h2 (by simpa [Mu.cut, h3] using hyb)
      omega
end
end
end Go.Ab
