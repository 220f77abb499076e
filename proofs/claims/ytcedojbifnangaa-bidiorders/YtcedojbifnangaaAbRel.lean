/- How the evaluator's values and heap stand to the model's values and world; what is kept when both go on. -/
import Derived.Test.YtcedojbifnangaaAbDef
import Derived.Laws.CopyRow
namespace Go.Ab

def live (h : Heap) (b : Nat) : Prop := ∃ cs, h[b]? = some (some cs)

theorem live_lt {h : Heap} {b : Nat} (hl : live h b) : b < h.length := by
  obtain ⟨cs, hc⟩ := hl
  exact (List.getElem?_eq_some_iff.1 hc).1

theorem live_of_blockOf {h : Heap} {b : Nat} {cs : List V} (hb : blockOf h b = some cs) : h[b]? = some (some cs) := by
  unfold blockOf at hb
  split at hb
  · rename_i cs' hc
    split at hb
    · cases hb
    · cases hb; exact hc
  · cases hb

theorem notMap_of_blockOf {h : Heap} {b : Nat} {cs : List V} (hb : blockOf h b = some cs) : isMap cs = false := by
  unfold blockOf at hb
  split at hb
  · rename_i cs' hc
    split at hb
    · cases hb
    · rename_i hm; cases hb; simpa using hm
  · cases hb

theorem live_of_mapOf {h : Heap} {b : Nat} {k e : IntKind} {l : List (Int × Int)} (hb : mapOf h b = some (k, e, l)) : h[b]? = some (some [.mp k e l]) := by
  unfold mapOf at hb
  split at hb
  · rename_i hc; cases hb; exact hc
  · cases hb

/-- Where the evaluator's blocks lie in the world; z: blocks of the world that are somebody else's to write. -/
structure Mu where
  f : Nat → Option Nat
  z : Nat → Prop

instance : CoeFun Mu (fun _ => Nat → Option Nat) := ⟨Mu.f⟩

def rsz (w : World) (b : Nat) : Nat :=
  match w.heap[b]? with
  | some (.cells c _ _) => c.size
  | _ => 0

/-- A block of the world that the evaluator's heap does not hold: nobody writes it any more. -/
def Imm (m : Mu) (h : Heap) (w : World) (b : Nat) : Prop := b < w.heap.size ∧ ¬ m.z b ∧ ∀ x, live h x → m x ≠ some b

inductive R (m : Mu) (h : Heap) (w : World) : V → Value → Prop where
  | any (v : Value) : R m h w .any v
  | no : R m h w .no undef
  | bool (b : Bool) : R m h w (.bool b) (.bool b)
  | int (k : IntKind) (n : Int) : R m h w (.int k n) (.int k n)
  | str (s : ByteArray) : R m h w (.str s) (.string s)
  | nilp : R m h w .nilp (.pointer none)
  | ptr {x off : Nat} {a : Addr} (hlt : x < h.length) (hv : live h x → ∃ b, m x = some b ∧ a = ⟨b, off, none⟩) : R m h w (.ptr x off) (.pointer (some a))
  | lptr {cs : List V} {off b o : Nat} (rv : Nat → Value) (hi : Imm m h w b) (hc : ∀ (i : Nat) (c : V), cs[i]? = some c → w.cell? ⟨b, o + i, none⟩ = some (rv i))
      (hf : ∀ (i : Nat) (c : V), cs[i]? = some c → c.rf = true) (hr : ∀ (i : Nat) (c : V), cs[i]? = some c → R m h w c (rv i)) : R m h w (.lptr cs off) (.pointer (some ⟨b, o + off, none⟩))
  | nils : R m h w .nils (.slice none 0 0)
  | sl {x off len cap k rc : Nat} {a : Addr} (hlt : x < h.length) (hcap : cap ≤ rc) (hlen : len ≤ rc) (hv : live h x → ∃ b, m x = some b ∧ a = ⟨b, off, none⟩ ∧ off + rc * k ≤ rsz w b) :
      R m h w (.sl x off len cap k) (.slice (some a) len rc)
  | lst0 (a : Option Addr) (rc : Nat) : R m h w (.lst []) (.slice a 0 rc)
  | lst {xs : List (List V)} {b o k rc : Nat} (rv : Nat → Nat → Value) (hi : Imm m h w b) (hrc : xs.length ≤ rc) (hk : ∀ (i : Nat) (e : List V), xs[i]? = some e → e.length = k)
      (hc : ∀ (i : Nat) (e : List V) (j : Nat) (c : V), xs[i]? = some e → e[j]? = some c → w.cell? ⟨b, o + i * k + j, none⟩ = some (rv i j))
      (hf : ∀ (i : Nat) (e : List V) (j : Nat) (c : V), xs[i]? = some e → e[j]? = some c → c.rf = true)
      (hr : ∀ (i : Nat) (e : List V) (j : Nat) (c : V), xs[i]? = some e → e[j]? = some c → R m h w c (rv i j)) : R m h w (.lst xs) (.slice (some ⟨b, o, none⟩) xs.length rc)
  | agg {cs : List V} {vs : Array Value} (hl : vs.size = cs.length) (hr : ∀ (i : Nat) (c : V) (v : Value), cs[i]? = some c → vs[i]? = some v → R m h w c v) : R m h w (.agg cs) (.agg vs)
  | tup {cs : List V} {vs : Array Value} (hl : vs.size = cs.length) (hr : ∀ (i : Nat) (c : V) (v : Value), cs[i]? = some c → vs[i]? = some v → R m h w c v) : R m h w (.tup cs) (.tuple vs)
  | func {fn : Fn} {f c : List V} {fs cs : Array Value} (hl : fs.size = f.length) (hr : ∀ (i : Nat) (c : V) (v : Value), f[i]? = some c → fs[i]? = some v → R m h w c v)
      (hl' : cs.size = c.length) (hr' : ∀ (i : Nat) (x : V) (v : Value), c[i]? = some x → cs[i]? = some v → R m h w x v) : R m h w (.func fn f c) (.func fn fs cs)
  | nilf : R m h w .nilf .nilFunc
  | nili : R m h w .nili .nilIface
  | nilm : R m h w .nilm (.map none)
  | iface {t : TypeId} {x : V} {v : Value} (hr : R m h w x v) : R m h w (.iface t x) (.iface t v)
  | mref {x : Nat} {b : Nat} (hlt : x < h.length) (hv : live h x → m x = some b) : R m h w (.mref x) (.map (some b))

/-- What is kept from one moment to a later one. -/
structure Evo (m : Mu) (h : Heap) (w : World) (m' : Mu) (h' : Heap) (w' : World) : Prop where
  zeq : m'.z = m.z
  len : h.length ≤ h'.length
  keep : ∀ x, x < h.length → live h' x → live h x ∧ m' x = m x
  own : ∀ (x b : Nat), live h' x → m' x = some b → (∃ y, live h y ∧ m y = some b) ∨ w.heap.size ≤ b
  frame : ∀ b, b < w.heap.size → (∀ x, live h x → m x ≠ some b) → w'.heap[b]? = w.heap[b]?
  size : w.heap.size ≤ w'.heap.size
  rs : ∀ b, b < w.heap.size → rsz w b ≤ rsz w' b
  os : w'.os = w.os
  tape : w'.tape = w.tape
  output : w'.output = w.output

theorem Evo.refl (m : Mu) (h : Heap) (w : World) : Evo m h w m h w :=
  ⟨rfl, Nat.le_refl _, fun _ _ hl => ⟨hl, rfl⟩, fun x _ hl hb => .inl ⟨x, hl, hb⟩, fun _ _ _ => rfl, Nat.le_refl _, fun _ _ => Nat.le_refl _, rfl, rfl, rfl⟩

theorem Evo.trans {m m' m'' : Mu} {h h' h'' : Heap} {w w' w'' : World} (e : Evo m h w m' h' w') (e' : Evo m' h' w' m'' h'' w'') : Evo m h w m'' h'' w'' where
  zeq := e'.zeq.trans e.zeq
  len := Nat.le_trans e.len e'.len
  keep := fun x hx hl => by
    obtain ⟨hl', he⟩ := e'.keep x (Nat.lt_of_lt_of_le hx e.len) hl
    obtain ⟨hl0, he0⟩ := e.keep x hx hl'
    exact ⟨hl0, he.trans he0⟩
  own := fun x b hl hb => by
    rcases e'.own x b hl hb with ⟨y, hy, hyb⟩ | hge
    · exact e.own y b hy hyb
    · exact .inr (Nat.le_trans e.size hge)
  frame := fun b hb hn => by
    refine (e'.frame b (Nat.lt_of_lt_of_le hb e.size) ?_).trans (e.frame b hb hn)
    intro x hl hx
    rcases e.own x b hl hx with ⟨y, hy, hyb⟩ | hge
    · exact hn y hy hyb
    · exact absurd hb (Nat.not_lt.2 hge)
  size := Nat.le_trans e.size e'.size
  rs := fun b hb => Nat.le_trans (e.rs b hb) (e'.rs b (Nat.lt_of_lt_of_le hb e.size))
  os := e'.os.trans e.os
  tape := e'.tape.trans e.tape
  output := e'.output.trans e.output

theorem Imm.evo {m m' : Mu} {h h' : Heap} {w w' : World} {b : Nat} (e : Evo m h w m' h' w') (hi : Imm m h w b) : Imm m' h' w' b := by
  refine ⟨Nat.lt_of_lt_of_le hi.1 e.size, by rw [e.zeq]; exact hi.2.1, fun x hl hx => ?_⟩
  rcases e.own x b hl hx with ⟨y, hy, hyb⟩ | hge
  · exact hi.2.2 y hy hyb
  · exact absurd hi.1 (Nat.not_lt.2 hge)

theorem cell?_of_block {w w' : World} {b : Nat} (hb : w'.heap[b]? = w.heap[b]?) (o : Nat) : w'.cell? ⟨b, o, none⟩ = w.cell? ⟨b, o, none⟩ := by
  simp [World.cell?, hb]

theorem rsz_of_block {w w' : World} {b : Nat} (hb : w'.heap[b]? = w.heap[b]?) : rsz w' b = rsz w b := by simp [rsz, hb]

theorem Imm.cell {m m' : Mu} {h h' : Heap} {w w' : World} {b : Nat} (e : Evo m h w m' h' w') (hi : Imm m h w b) (o : Nat) : w'.cell? ⟨b, o, none⟩ = w.cell? ⟨b, o, none⟩ :=
  cell?_of_block (e.frame b hi.1 hi.2.2) o

theorem dead_of_not_live {h : Heap} {x : Nat} (hlt : x < h.length) (hn : ¬ live h x) : h[x]? = some none := by
  rw [List.getElem?_eq_getElem hlt]
  cases hx : h[x] with
  | none => rfl
  | some cs => exact absurd ⟨cs, by rw [List.getElem?_eq_getElem hlt, hx]⟩ hn

theorem rsz_pos {w : World} {b : Nat} (h : 0 < rsz w b) : b < w.heap.size := by
  rcases Nat.lt_or_ge b w.heap.size with hb | hb
  · exact hb
  · simp [rsz, Array.getElem?_eq_none hb] at h

theorem R.evo {m m' : Mu} {h h' : Heap} {w w' : World} (e : Evo m h w m' h' w') (hown : ∀ (x b : Nat), live h x → m x = some b → b < w.heap.size) {x : V} {v : Value} (hr : R m h w x v) : R m' h' w' x v := by
  induction hr with
  | any v => exact .any v
  | no => exact .no
  | bool b => exact .bool b
  | int k n => exact .int k n
  | str s => exact .str s
  | nilp => exact .nilp
  | ptr hlt hv =>
    refine .ptr (Nat.lt_of_lt_of_le hlt e.len) fun hl => ?_
    obtain ⟨hl0, hm⟩ := e.keep _ hlt hl
    obtain ⟨b, hb, hvb⟩ := hv hl0
    exact ⟨b, hm.trans hb, hvb⟩
  | lptr rv hi hc hf _ ih => exact .lptr rv (hi.evo e) (fun i c hic => (hi.cell e _).trans (hc i c hic)) hf ih
  | nils => exact .nils
  | sl hlt hcap hlen hv =>
    refine .sl (Nat.lt_of_lt_of_le hlt e.len) hcap hlen fun hl => ?_
    obtain ⟨hl0, hm⟩ := e.keep _ hlt hl
    obtain ⟨b, hb, hvb, hs⟩ := hv hl0
    exact ⟨b, hm.trans hb, hvb, Nat.le_trans hs (e.rs b (hown _ _ hl0 hb))⟩
  | lst0 a rc => exact .lst0 a rc
  | lst rv hi hrc hk hc hf _ ih => exact .lst rv (hi.evo e) hrc hk (fun i x j c hx hj => (hi.cell e _).trans (hc i x j c hx hj)) hf ih
  | agg hl _ ih => exact .agg hl ih
  | tup hl _ ih => exact .tup hl ih
  | func hl _ hl' _ ih ih' => exact .func hl ih hl' ih'
  | nilf => exact .nilf
  | nili => exact .nili
  | nilm => exact .nilm
  | iface _ ih => exact .iface ih
  | mref hlt hv =>
    refine .mref (Nat.lt_of_lt_of_le hlt e.len) fun hl => ?_
    obtain ⟨hl0, hm⟩ := e.keep _ hlt hl
    exact hm.trans (hv hl0)

/-- A map's entries. -/
def MapR (k e : IntKind) (l : List (Int × Int)) (es : Array MapEntry) : Prop := es.toList.map (fun x => (x.key, x.val)) = l.map fun x => (Value.int k x.1, Value.int e x.2)

/-- A block as it lies in the world. -/
def BR (m : Mu) (h : Heap) (w : World) (cs : List V) (b : Nat) : Prop :=
  (∃ arr T, w.heap[b]? = some (.cells arr T (0, 0)) ∧ cs.length ≤ arr.size ∧ ∀ (i : Nat) (c : V), cs[i]? = some c → ∃ v, arr[i]? = some v ∧ R m h w c v) ∨
  (∃ k e l es clock, cs = [.mp k e l] ∧ w.heap[b]? = some (.map es clock) ∧ MapR k e l es)

theorem BR.cells {m : Mu} {h : Heap} {w : World} {cs : List V} {b : Nat} (hb : BR m h w cs b) (hn : isMap cs = false) :
    ∃ arr T, w.heap[b]? = some (.cells arr T (0, 0)) ∧ cs.length ≤ arr.size ∧ ∀ (i : Nat) (c : V), cs[i]? = some c → ∃ v, arr[i]? = some v ∧ R m h w c v := by
  rcases hb with h | ⟨k, e, l, es, clock, rfl, _⟩
  · exact h
  · simp [isMap] at hn

/-- Carried on: the block's object and what its cells lead to. -/
theorem BR.carry {m m' : Mu} {h h' : Heap} {w w' : World} {cs : List V} {b : Nat} (hb : BR m h w cs b) (hw : w'.heap[b]? = w.heap[b]?) (hr : ∀ (c : V) (v : Value), c ∈ cs → R m h w c v → R m' h' w' c v) : BR m' h' w' cs b := by
  rcases hb with ⟨arr, T, ha, hl, hc⟩ | ⟨k, e, l, es, clock, rfl, ha, hm⟩
  · refine .inl ⟨arr, T, hw.trans ha, hl, fun i c hi => ?_⟩
    obtain ⟨v, hv, hvr⟩ := hc i c hi
    exact ⟨v, hv, hr c v (List.mem_of_getElem? hi) hvr⟩
  · exact .inr ⟨k, e, l, es, clock, rfl, hw.trans ha, hm⟩

theorem BR.lt {m : Mu} {h : Heap} {w : World} {cs : List V} {b : Nat} (hb : BR m h w cs b) : b < w.heap.size := by
  rcases Nat.lt_or_ge b w.heap.size with h | h
  · exact h
  · rcases hb with ⟨arr, T, ha, _⟩ | ⟨k, e, l, es, clock, _, ha, _⟩ <;> simp [Array.getElem?_eq_none h] at ha

/-- The heap as it lies in the world. -/
structure Rel (m : Mu) (h : Heap) (w : World) : Prop where
  zo : ∀ (x b : Nat), live h x → m x = some b → ¬ m.z b
  zl : ∀ b, m.z b → b < w.heap.size
  inj : ∀ x y b, live h x → live h y → m x = some b → m y = some b → x = y
  blk : ∀ x cs b, h[x]? = some (some cs) → m x = some b → BR m h w cs b

theorem Rel.lt {m : Mu} {h : Heap} {w : World} (r : Rel m h w) : ∀ x b, live h x → m x = some b → b < w.heap.size := by
  rintro x b ⟨cs, hc⟩ hb
  exact (r.blk x cs b hc hb).lt

/-- The frame as it lies in the activation. -/
structure FR (m : Mu) (h : Heap) (w : World) (fr : List V) (a : Act) : Prop where
  len : fr.length = a.tmps.size
  slot : ∀ (i : Nat) (x : V) (v : Value), fr[i]? = some x → a.tmps[i]? = some v → R m h w x v
  defers : a.defers = []

theorem FR.evo {m m' : Mu} {h h' : Heap} {w w' : World} {fr : List V} {a : Act} (r : Rel m h w) (e : Evo m h w m' h' w') (f : FR m h w fr a) : FR m' h' w' fr a :=
  ⟨f.len, fun i x v hx hv => (f.slot i x v hx hv).evo e r.lt, f.defers⟩

theorem FR.put {m : Mu} {h : Heap} {w : World} {fr : List V} {a : Act} {x : V} {v : Value} (f : FR m h w fr a) (hr : R m h w x v) (d : Option Tmp) : FR m h w (put fr d x) (a.put d v) := by
  cases d with
  | none => exact f
  | some d =>
    refine ⟨by simp [Ab.put, Act.put, f.len], fun i y u hy hu => ?_, f.defers⟩
    simp only [Ab.put, Act.put] at hy hu
    by_cases hid : d = i
    · subst hid
      have hlt : d < fr.length := by
        rcases Nat.lt_or_ge d fr.length with h | h
        · exact h
        · rw [List.set_eq_of_length_le h] at hy; simp [List.getElem?_eq_none h] at hy
      rw [List.getElem?_set_self hlt] at hy
      rw [Array.getElem?_setIfInBounds_self_of_lt (by rw [← f.len]; exact hlt)] at hu
      cases hy; cases hu; exact hr
    · rw [List.getElem?_set_ne hid] at hy
      rw [Array.getElem?_setIfInBounds_ne hid] at hu
      exact f.slot i y u hy hu

theorem ofLeaf_R {m : Mu} {h : Heap} {w : World} {v : Value} {x : V} (hv : ofLeaf v = some x) : R m h w x v := by
  unfold ofLeaf at hv
  split at hv <;> first | (cases hv; constructor) | cases hv

theorem mapM_ofLeaf {m : Mu} {h : Heap} {w : World} : ∀ {vs : List Value} {xs : List V}, vs.mapM ofLeaf = some xs → vs.length = xs.length ∧ ∀ (i : Nat) (c : V) (v : Value), xs[i]? = some c → vs[i]? = some v → R m h w c v
  | [], xs, hx => by simp at hx; subst hx; simp
  | v :: vs, xs, hx => by
    simp only [List.mapM_cons, Option.bind_eq_bind, Option.bind_eq_some_iff, Option.pure_def] at hx
    obtain ⟨x, hx1, xs', hx2, hx3⟩ := hx
    cases hx3
    obtain ⟨hl, ih⟩ := mapM_ofLeaf (m := m) (h := h) (w := w) hx2
    refine ⟨by simp [hl], fun i c u hc hu => ?_⟩
    cases i with
    | zero => simp at hc hu; subst hc hu; exact ofLeaf_R hx1
    | succ i => simp at hc hu; exact ih i c u hc hu

theorem ofVal_R {m : Mu} {h : Heap} {w : World} {v : Value} {x : V} (hv : ofVal v = some x) : R m h w x v := by
  unfold ofVal at hv
  split at hv
  · rename_i cs
    simp only [Option.map_eq_some_iff] at hv
    obtain ⟨xs, hx, rfl⟩ := hv
    obtain ⟨hl, hr⟩ := mapM_ofLeaf (m := m) (h := h) (w := w) hx
    exact .agg (by simpa using hl) (fun i c u hc hu => hr i c u hc (by simpa using hu))
  · rename_i fn f c
    split at hv
    · rename_i hz
      simp only [Bool.and_eq_true, decide_eq_true_eq] at hz
      cases hv
      exact .func (by simpa using hz.1) (by simp) (by simpa using hz.2) (by simp)
    · cases hv
  · exact ofLeaf_R hv

theorem ev_R {m : Mu} {h : Heap} {w : World} {fr : List V} {a : Act} (f : FR m h w fr a) {o : Operand} {x : V} (hx : ev fr o = some x) : R m h w x (a.eval o) := by
  cases o with
  | tmp t =>
    simp only [ev] at hx
    have hlt : t < a.tmps.size := by rw [← f.len]; exact (List.getElem?_eq_some_iff.1 hx).1
    have : a.eval (.tmp t) = a.tmps[t] := by simp [Act.eval, hlt]
    rw [this]
    exact f.slot t x _ hx (Array.getElem?_eq_getElem hlt)
  | const v => exact ofVal_R hx
  | global g => simp [ev] at hx
  | func g => simp only [ev] at hx; cases hx; exact .func rfl (by simp) rfl (by simp)

theorem evAll_R {m : Mu} {h : Heap} {w : World} {fr : List V} {a : Act} (f : FR m h w fr a) : ∀ {os : List Operand} {xs : List V}, evAll fr os = some xs →
    (os.map a.eval).length = xs.length ∧ ∀ (i : Nat) (c : V) (v : Value), xs[i]? = some c → (os.map a.eval)[i]? = some v → R m h w c v
  | [], xs, hx => by simp [evAll] at hx; subst hx; simp
  | o :: os, xs, hx => by
    simp only [evAll] at hx
    split at hx
    · rename_i x hx1
      split at hx
      · rename_i vs hx2
        cases hx
        obtain ⟨hl, ih⟩ := evAll_R f hx2
        refine ⟨by simpa using hl, fun i c u hc hu => ?_⟩
        cases i with
        | zero => simp at hc hu; subst hc hu; exact ev_R f hx1
        | succ i => simp only [List.getElem?_cons_succ, List.map_cons] at hc hu; exact ih i c u hc hu
      · cases hx
    · cases hx

end Go.Ab
