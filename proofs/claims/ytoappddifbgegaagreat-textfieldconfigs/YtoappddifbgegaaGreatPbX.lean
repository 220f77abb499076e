/- Several texts of this proof in one. -/
import Derived.Test.YtoappddifbgegaaGreatAbW7
import Derived.Test.YtoappddifbgegaaGreatAbRound
import Derived.Deep.Slices
set_option linter.all false
namespace Go.Ab
open Go.RowKit Go.Deep
inductive Sh where
  | int (k : IntKind)
  | bool
  | sl (es : List Sh)
def shF (P : Program) (g : TypeId → Option (List Sh)) : Nat → List Field → Option (List Sh)
  | _, [] => some []
  | i, f :: r => match g f.type with
    | some ss => if f.offset = i ∧ ss.length = P.cellsOf f.type then (shF P g (i + ss.length) r).map (ss ++ ·) else none
    | none => none
def shOf (P : Program) : Nat → TypeId → Option (List Sh)
  | 0, _ => none
  | n + 1, t => match P.underlying t with
    | some .bool => some [.bool]
    | some (.int k) => some [.int k]
    | some (.slice e) => match shOf P n e with
      | some es => if es.length = P.cellsOf e ∧ 0 < es.length then some [.sl es] else none
      | none => none
    | some (.struct fs) => match shF P (shOf P n) 0 fs.toList with
      | some ss => if ss.length = P.cellsOf t then some ss else none
      | none => none
    | _ => none
mutual
inductive VS : Sh → V → Prop
  | int (k : IntKind) (n : Int) : VS (.int k) (.int k n)
  | bool (b : Bool) : VS .bool (.bool b)
  | sl {es : List Sh} {xs : List (List V)} (h : ∀ e ∈ xs, VL es e) : VS (.sl es) (.lst xs)
inductive VL : List Sh → List V → Prop
  | nil : VL [] []
  | cons {s : Sh} {v : V} {ss : List Sh} {vs : List V} : VS s v → VL ss vs → VL (s :: ss) (v :: vs)
end
inductive A3 (w : World) : List Sh → List Value → List V → Prop
  | nil : A3 w [] [] []
  | cons {s : Sh} {c : Value} {v : V} {ss : List Sh} {cs : List Value} {vs : List V} : VS s v → R noMu [] w v c → v.rf = true → A3 w ss cs vs → A3 w (s :: ss) (c :: cs) (v :: vs)
theorem A3.app {w : World} {s1 s2 : List Sh} {c1 c2 : List Value} {v1 v2 : List V} (h1 : A3 w s1 c1 v1) (h2 : A3 w s2 c2 v2) : A3 w (s1 ++ s2) (c1 ++ c2) (v1 ++ v2) := by
  induction h1 with
  | nil => exact h2
  | cons a b c _ ih => exact .cons a b c ih
theorem A3.len {w : World} {ss : List Sh} {cs : List Value} {vs : List V} (h : A3 w ss cs vs) : cs.length = ss.length ∧ vs.length = ss.length := by
  induction h with
  | nil => exact ⟨rfl, rfl⟩
  | cons _ _ _ _ ih => simp [ih.1, ih.2]
theorem A3.vl {w : World} {ss : List Sh} {cs : List Value} {vs : List V} (h : A3 w ss cs vs) : VL ss vs := by
  induction h with
  | nil => exact .nil
  | cons a _ _ _ ih => exact .cons a ih
theorem A3.get {w : World} {ss : List Sh} {cs : List Value} {vs : List V} (h : A3 w ss cs vs) : ∀ (i : Nat) (v : V), vs[i]? = some v → ∃ c, cs[i]? = some c ∧ R noMu [] w v c ∧ v.rf = true := by
  induction h with
  | nil => intro i v h; simp at h
  | cons _ b c _ ih =>
    intro i v h
    rcases i with _ | i
    · simp at h
      subst h
      exact ⟨_, rfl, b, c⟩
    · exact ih i v (by simpa using h)
theorem A3.agg {w : World} {ss : List Sh} {cs : List Value} {vs : List V} (h : A3 w ss cs vs) : R noMu [] w (.agg vs) (.agg cs.toArray) := by
  obtain ⟨h1, h2⟩ := h.len
  refine .agg (by simp; omega) fun i v c hv hc => ?_
  obtain ⟨c', g1, g2, -⟩ := h.get i v hv
  rw [List.getElem?_toArray, g1] at hc
  cases hc
  exact g2
theorem add_none {b o n : Nat} : (⟨b, o, none⟩ : Addr).add n = ⟨b, o + n, none⟩ := by
  by_cases h : n = 0
  · subst h; simp [Addr.add]
  · simp [Addr.add, h]
section
variable {H : Type} {enc : TypeId × Value → H} {P : Program} {w : World} {base : Nat} {spare : Nat → Bool} {held : Bool}
theorem shF_ok {g : TypeId → Option (List Sh)} (hg : ∀ t ss, g t = some ss → ∀ fuel cs x, DataW.trod enc P w base spare held fuel t cs = some x → ∃ vs, A3 w ss cs vs) {cs : List Value} :
    ∀ (fs : List Field) (i : Nat) (ss : List Sh), shF P g i fs = some ss → (∀ f ∈ fs, ∃ n x, DataW.trod enc P w base spare held n f.type ((cs.drop f.offset).take (P.cellsOf f.type)) = some x) → ∃ vs, A3 w ss ((cs.drop i).take ss.length) vs
  | [], i, ss, h, _ => by
    simp only [shF, Option.some.injEq] at h
    subst h
    exact ⟨[], by simpa using .nil⟩
  | f :: r, i, ss, h, hf => by
    unfold shF at h
    split at h
    · rename_i s1 hs
      split at h
      · rename_i hc
        obtain ⟨s2, h2, rfl⟩ := Option.map_eq_some_iff.1 h
        obtain ⟨n, x, hx⟩ := hf f (List.mem_cons_self ..)
        obtain ⟨v1, g1⟩ := hg _ _ hs _ _ _ hx
        obtain ⟨v2, g2⟩ := shF_ok hg r _ _ h2 fun f' hf' => hf f' (List.mem_cons_of_mem _ hf')
        refine ⟨v1 ++ v2, ?_⟩
        have := g1.app g2
        rw [List.length_append, List.take_add, List.drop_drop]
        rw [hc.1, ← hc.2] at this
        exact this
      · cases h
    · cases h
theorem trod_sh : ∀ (n : Nat) (t : TypeId) (ss : List Sh), shOf P n t = some ss → ∀ fuel cs x, DataW.trod enc P w base spare held fuel t cs = some x → ∃ vs, A3 w ss cs vs
  | 0, _, _, h => by simp [shOf] at h
  | n + 1, t, ss, h => by
    intro fuel cs x hx
    unfold shOf at h
    split at h
    · rename_i ht
      cases h
      obtain ⟨b, rfl, -⟩ := DataW.trod_bool ht hx
      exact ⟨[.bool b], .cons (.bool b) (.bool b) rfl .nil⟩
    · rename_i k ht
      cases h
      obtain ⟨p, rfl, -, -⟩ := DataW.trod_int ht hx
      exact ⟨[.int k p], .cons (.int k p) (.int k p) rfl .nil⟩
    · rename_i e ht
      split at h
      · rename_i es hes
        split at h
        · rename_i hc
          cases h
          rcases open_slice ht hx with ⟨rfl, -⟩ | ⟨a, len, cap, m, q, D, Pl, rfl, hb, hl, hm, hmm, -, hi⟩
          · exact ⟨[.lst []], .cons (.sl fun e he => by cases he) (.lst0 _ _ fun _ => rfl) rfl .nil⟩
          · have hlm : len ≤ m := by rw [hmm]; split <;> omega
            obtain ⟨f, hf⟩ := choose_lt (α := List V) (p := fun i vs => ∃ cs', w.cells? base (a.add (i * P.cellsOf e)) (P.cellsOf e) = some cs' ∧ A3 w es cs' vs) (n := len) (fun i hi' => by
              obtain ⟨cs', h1, h2⟩ := hi i (by omega)
              obtain ⟨vs, h3⟩ := trod_sh n e es hes _ _ _ h2
              exact ⟨vs, cs', h1, h3⟩)
            have hxs : ∀ i e', ((List.range len).map f)[i]? = some e' → i < len ∧ e' = f i := fun i e' h => by
              rw [List.getElem?_map] at h
              by_cases hil : i < len
              · rw [List.getElem?_range hil] at h
                cases h
                exact ⟨hil, rfl⟩
              · rw [List.getElem?_eq_none (by simpa using hil)] at h
                cases h
            have hvs : VS (.sl es) (.lst ((List.range len).map f)) := .sl fun e' he => by
              obtain ⟨i, hi'⟩ := List.getElem?_of_mem he
              obtain ⟨h1, rfl⟩ := hxs i e' hi'
              obtain ⟨cs', -, h3⟩ := hf i h1
              exact h3.vl
            by_cases h0 : len = 0
            · subst h0
              exact ⟨[.lst []], .cons (by simpa using hvs) (.lst0 _ _ fun h => by cases h) rfl .nil⟩
            obtain ⟨b, off, spot⟩ := a
            have hspot : spot = none := by
              obtain ⟨cs', h1, h3⟩ := hf 0 (by omega)
              obtain ⟨-, h4, h5⟩ := World.cells?_some h1
              have h6 := h5 0 (by omega)
              obtain ⟨v0, h7⟩ : ∃ v0, cs'[0]? = some v0 := ⟨_, List.getElem?_eq_getElem (by have := h3.len; omega)⟩
              rw [h7] at h6
              simpa [Addr.add] using World.cell?_spot h6
            subst hspot
            have hcell : ∀ i j v, i < len → (f i)[j]? = some v → ∃ c, w.cell? ⟨b, off + i * P.cellsOf e + j, none⟩ = some c ∧ R noMu [] w v c ∧ v.rf = true := fun i j v hi' hv => by
              obtain ⟨cs', h1, h3⟩ := hf i hi'
              obtain ⟨-, h4, h5⟩ := World.cells?_some h1
              obtain ⟨c, h6, h7⟩ := h3.get j v hv
              have h8 := h5 j (by have := (List.getElem?_eq_some_iff.1 h6).1; omega)
              rw [add_none, add_none, h6] at h8
              exact ⟨c, h8, h7⟩
            have hlt : b < w.heap.size := by
              obtain ⟨cs', h1, h3⟩ := hf 0 (by omega)
              obtain ⟨v0, h4⟩ : ∃ v0, (f 0)[0]? = some v0 := ⟨_, List.getElem?_eq_getElem (by have := h3.len; omega)⟩
              obtain ⟨c, h5, -⟩ := hcell 0 0 _ (by omega) h4
              exact cell_lt h5
            have := R.lst (m := noMu) (h := []) (w := w) (xs := (List.range len).map f) (b := b) (o := off) (k := P.cellsOf e) (rc := cap) (fun i j => (w.cell? ⟨b, off + i * P.cellsOf e + j, none⟩).getD undef)
              ⟨hlt, fun h => h, fun x hx => by obtain ⟨cs, hc⟩ := hx; simp at hc⟩ (by simpa using hl)
              (fun i e' he => by
                obtain ⟨h1, rfl⟩ := hxs i e' he
                obtain ⟨cs', -, h3⟩ := hf i h1
                have := h3.len
                omega)
              (fun i e' j c he hj => by
                obtain ⟨h1, rfl⟩ := hxs i e' he
                obtain ⟨c', h2, -⟩ := hcell i j c h1 hj
                rw [h2]
                rfl)
              (fun i e' j c he hj => by
                obtain ⟨h1, rfl⟩ := hxs i e' he
                obtain ⟨c', h2, h3, h4⟩ := hcell i j c h1 hj
                exact h4)
              (fun i e' j c he hj => by
                obtain ⟨h1, rfl⟩ := hxs i e' he
                obtain ⟨c', h2, h3, h4⟩ := hcell i j c h1 hj
                rw [h2]
                exact h3)
            rw [show ((List.range len).map f).length = len by simp] at this
            exact ⟨[_], .cons hvs this rfl .nil⟩
        · cases h
      · cases h
    · rename_i fs ht
      split at h
      · rename_i ss' hss
        split at h
        · rename_i hc
          cases h
          obtain ⟨xs, q, -, -, hl, hlen, hf⟩ := DataW.trod_struct ht hx
          obtain ⟨vs, hv⟩ := shF_ok (trod_sh n) (cs := cs) fs.toList 0 ss hss fun f hfm => by
            obtain ⟨i, hi⟩ := List.getElem?_of_mem hfm
            have := hf i f (by simpa using hi)
            have hil : i < xs.length := by
              have := (List.getElem?_eq_some_iff.1 hi).1
              rw [hlen]
              simpa using this
            rw [List.getElem?_eq_getElem hil] at this
            exact ⟨_, _, this⟩
          refine ⟨vs, ?_⟩
          rw [List.drop_zero, List.take_of_length_le (by omega)] at hv
          exact hv
        · cases h
      · cases h
    · cases h
end
end Go.Ab
namespace Go.Ab
open Go.Proofs
namespace Bi
theorem vl_cons {s : Sh} {ss : List Sh} {vs : List V} (h : VL (s :: ss) vs) : ∃ v vs', vs = v :: vs' ∧ VS s v ∧ VL ss vs' := by
  cases h with
  | cons h1 h2 => exact ⟨_, _, rfl, h1, h2⟩
theorem vl_nil {vs : List V} (h : VL [] vs) : vs = [] := by cases h; rfl
theorem vs_int {k : IntKind} {v : V} (h : VS (.int k) v) : ∃ n, v = .int k n := by cases h; exact ⟨_, rfl⟩
theorem vs_bool {v : V} (h : VS .bool v) : ∃ b, v = .bool b := by cases h; exact ⟨_, rfl⟩
theorem vs_sl {es : List Sh} {v : V} (h : VS (.sl es) v) : ∃ xs, v = .lst xs ∧ ∀ e ∈ xs, VL es e := by cases h with | sl h => exact ⟨_, rfl, h⟩
theorem lst_of {α : Type} {g : α → List V} : ∀ {xs : List (List V)}, (∀ e ∈ xs, ∃ x, e = g x) → ∃ l : List α, xs = l.map g
  | [], _ => ⟨[], rfl⟩
  | e :: xs, h => by
    obtain ⟨x, rfl⟩ := h e List.mem_cons_self
    obtain ⟨l, rfl⟩ := lst_of (xs := xs) fun e he => h e (List.mem_cons_of_mem _ he)
    exact ⟨x :: l, rfl⟩
theorem sl_of {α : Type} {g : α → List V} {es : List Sh} (hg : ∀ e, VL es e → ∃ x, e = g x) {v : V} (h : VS (.sl es) v) : ∃ l : List α, v = .lst (l.map g) := by
  obtain ⟨xs, rfl, hx⟩ := vs_sl h
  obtain ⟨l, rfl⟩ := lst_of (g := g) fun e he => hg e (hx e he)
  exact ⟨l, rfl⟩
abbrev I6 : Sh := .int .i64
abbrev I3 : Sh := .int .i32
def shAdv : List Sh := [I3, I3, I6]
def shLig : List Sh := [I3, I3, I6, I6]
def shFnt : List Sh := [I6, I6, I6, I6, I6, .sl shAdv, .sl shAdv, .sl shLig]
def shCfg : List Sh := [.bool, .bool, I6, I6, I6, I6, I6, I6, I6]
def shStp : List Sh := [I6, I6, .sl [I3], .sl [I6, I6], I6, I6, .sl [I3], .sl [I6, I6], I6, I6, .bool, I6, I6, .bool]
def shGrp : List Sh := [I6, I6, .sl shStp]
def shEd : List Sh := [.sl [I3], .sl [I6, I6], I6, I6, .bool, .bool, I6, I6, .sl [I3], .sl [I6, I6], I6, I6, .sl [I6, .bool], .sl shGrp, .sl shGrp, .bool, I6, I6, I6]
theorem of_rune {v : V} (h : VS (.sl [I3]) v) : ∃ t, v = rl t := by
  refine sl_of (g := fun n => [V.int .i32 n]) (fun e he => ?_) h
  obtain ⟨v, _, rfl, h1, h2⟩ := vl_cons he
  obtain ⟨n, rfl⟩ := vs_int h1
  obtain rfl := vl_nil h2
  exact ⟨n, rfl⟩
theorem of_mark {v : V} (h : VS (.sl [I6, I6]) v) : ∃ r, v = ml r := by
  refine sl_of (g := fun x : Int × Int => [V.int .i64 x.1, V.int .i64 x.2]) (fun e he => ?_) h
  obtain ⟨v, _, rfl, h1, h2⟩ := vl_cons he
  obtain ⟨n, rfl⟩ := vs_int h1
  obtain ⟨v, _, rfl, h1, h3⟩ := vl_cons h2
  obtain ⟨m, rfl⟩ := vs_int h1
  obtain rfl := vl_nil h3
  exact ⟨(n, m), rfl⟩
theorem of_adv {v : V} (h : VS (.sl shAdv) v) : ∃ r : List (Int × Int × Int), v = .lst (r.map advC) := by
  refine sl_of (g := advC) (fun e he => ?_) h
  obtain ⟨v, _, rfl, h1, he1⟩ := vl_cons he
  obtain ⟨a, rfl⟩ := vs_int h1
  obtain ⟨v, _, rfl, h1, he2⟩ := vl_cons he1
  obtain ⟨b, rfl⟩ := vs_int h1
  obtain ⟨v, _, rfl, h1, he3⟩ := vl_cons he2
  obtain ⟨c, rfl⟩ := vs_int h1
  obtain rfl := vl_nil he3
  exact ⟨(a, b, c), rfl⟩
theorem of_lig {v : V} (h : VS (.sl shLig) v) : ∃ r : List (Int × Int × Int × Int), v = .lst (r.map ligC) := by
  refine sl_of (g := ligC) (fun e he => ?_) h
  obtain ⟨v, _, rfl, h1, he1⟩ := vl_cons he
  obtain ⟨a, rfl⟩ := vs_int h1
  obtain ⟨v, _, rfl, h1, he2⟩ := vl_cons he1
  obtain ⟨b, rfl⟩ := vs_int h1
  obtain ⟨v, _, rfl, h1, he3⟩ := vl_cons he2
  obtain ⟨c, rfl⟩ := vs_int h1
  obtain ⟨v, _, rfl, h1, he4⟩ := vl_cons he3
  obtain ⟨d, rfl⟩ := vs_int h1
  obtain rfl := vl_nil he4
  exact ⟨(a, b, c, d), rfl⟩
theorem of_fnts {v : V} (h : VS (.sl shFnt) v) : ∃ fs : List Fnt, v = .lst (fs.map fntC) := by
  refine sl_of (g := fntC) (fun e he => ?_) h
  obtain ⟨v, _, rfl, h1, he1⟩ := vl_cons he
  obtain ⟨a, rfl⟩ := vs_int h1
  obtain ⟨v, _, rfl, h1, he2⟩ := vl_cons he1
  obtain ⟨b, rfl⟩ := vs_int h1
  obtain ⟨v, _, rfl, h1, he3⟩ := vl_cons he2
  obtain ⟨c, rfl⟩ := vs_int h1
  obtain ⟨v, _, rfl, h1, he4⟩ := vl_cons he3
  obtain ⟨d, rfl⟩ := vs_int h1
  obtain ⟨v, _, rfl, h1, he5⟩ := vl_cons he4
  obtain ⟨f, rfl⟩ := vs_int h1
  obtain ⟨v, _, rfl, h1, he6⟩ := vl_cons he5
  obtain ⟨g, rfl⟩ := of_adv h1
  obtain ⟨v, _, rfl, h1, he7⟩ := vl_cons he6
  obtain ⟨k, rfl⟩ := of_adv h1
  obtain ⟨v, _, rfl, h1, he8⟩ := vl_cons he7
  obtain ⟨l, rfl⟩ := of_lig h1
  obtain rfl := vl_nil he8
  exact ⟨⟨a, b, c, d, f, g, k, l⟩, rfl⟩
theorem of_cfg {vs : List V} (he : VL shCfg vs) : ∃ c, vs = ecfC c := by
  obtain ⟨v, _, rfl, h1, he1⟩ := vl_cons he
  obtain ⟨a, rfl⟩ := vs_bool h1
  obtain ⟨v, _, rfl, h1, he2⟩ := vl_cons he1
  obtain ⟨b, rfl⟩ := vs_bool h1
  obtain ⟨v, _, rfl, h1, he3⟩ := vl_cons he2
  obtain ⟨c, rfl⟩ := vs_int h1
  obtain ⟨v, _, rfl, h1, he4⟩ := vl_cons he3
  obtain ⟨d, rfl⟩ := vs_int h1
  obtain ⟨v, _, rfl, h1, he5⟩ := vl_cons he4
  obtain ⟨f, rfl⟩ := vs_int h1
  obtain ⟨v, _, rfl, h1, he6⟩ := vl_cons he5
  obtain ⟨g, rfl⟩ := vs_int h1
  obtain ⟨v, _, rfl, h1, he7⟩ := vl_cons he6
  obtain ⟨k, rfl⟩ := vs_int h1
  obtain ⟨v, _, rfl, h1, he8⟩ := vl_cons he7
  obtain ⟨l, rfl⟩ := vs_int h1
  obtain ⟨v, _, rfl, h1, he9⟩ := vl_cons he8
  obtain ⟨m, rfl⟩ := vs_int h1
  obtain rfl := vl_nil he9
  exact ⟨⟨a, b, c, d, f, g, k, l, m⟩, rfl⟩
theorem of_ed {vs : List V} (he : VL shEd vs) : ∃ e, vs = edC e := by
  obtain ⟨v, _, rfl, h1, he1⟩ := vl_cons he
  obtain ⟨x1, rfl⟩ := of_rune h1
  obtain ⟨v, _, rfl, h1, he2⟩ := vl_cons he1
  obtain ⟨x2, rfl⟩ := of_mark h1
  obtain ⟨v, _, rfl, h1, he3⟩ := vl_cons he2
  obtain ⟨x3, rfl⟩ := vs_int h1
  obtain ⟨v, _, rfl, h1, he4⟩ := vl_cons he3
  obtain ⟨x4, rfl⟩ := vs_int h1
  obtain ⟨v, _, rfl, h1, he5⟩ := vl_cons he4
  obtain ⟨x5, rfl⟩ := vs_bool h1
  obtain ⟨v, _, rfl, h1, he6⟩ := vl_cons he5
  obtain ⟨x6, rfl⟩ := vs_bool h1
  obtain ⟨v, _, rfl, h1, he7⟩ := vl_cons he6
  obtain ⟨x7, rfl⟩ := vs_int h1
  obtain ⟨v, _, rfl, h1, he8⟩ := vl_cons he7
  obtain ⟨x8, rfl⟩ := vs_int h1
  obtain ⟨v, _, rfl, h1, he9⟩ := vl_cons he8
  obtain ⟨x9, rfl⟩ := of_rune h1
  obtain ⟨v, _, rfl, h1, he10⟩ := vl_cons he9
  obtain ⟨y1, rfl⟩ := of_mark h1
  obtain ⟨v, _, rfl, h1, he11⟩ := vl_cons he10
  obtain ⟨y2, rfl⟩ := vs_int h1
  obtain ⟨v, _, rfl, h1, he12⟩ := vl_cons he11
  obtain ⟨y3, rfl⟩ := vs_int h1
  obtain ⟨v, _, rfl, h1, he13⟩ := vl_cons he12
  obtain ⟨y4, rfl, -⟩ := vs_sl h1
  obtain ⟨v, _, rfl, h1, he14⟩ := vl_cons he13
  obtain ⟨y5, rfl, -⟩ := vs_sl h1
  obtain ⟨v, _, rfl, h1, he15⟩ := vl_cons he14
  obtain ⟨y6, rfl, -⟩ := vs_sl h1
  obtain ⟨v, _, rfl, h1, he16⟩ := vl_cons he15
  obtain ⟨y7, rfl⟩ := vs_bool h1
  obtain ⟨v, _, rfl, h1, he17⟩ := vl_cons he16
  obtain ⟨y8, rfl⟩ := vs_int h1
  obtain ⟨v, _, rfl, h1, he18⟩ := vl_cons he17
  obtain ⟨y9, rfl⟩ := vs_int h1
  obtain ⟨v, _, rfl, h1, he19⟩ := vl_cons he18
  obtain ⟨z1, rfl⟩ := vs_int h1
  obtain rfl := vl_nil he19
  exact ⟨⟨x1, x2, x3, x4, x5, x6, x7, x8, x9, y1, y2, y3, y4, y5, y6, y7, y8, y9, z1⟩, rfl⟩
theorem A3.one {w : World} {s : Sh} {c : Value} {vs : List V} (h : A3 w [s] [c] vs) : ∃ v, VS s v ∧ R noMu [] w v c := by
  cases h with
  | cons h1 h2 _ h3 => exact ⟨_, h1, h2⟩
end Bi
end Go.Ab
