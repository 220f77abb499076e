/- Several texts of this proof in one. -/
import Derived.Test.YtoappddifbgegaaGreatPaVa2
import Derived.Test.YtoappddifbgegaaGreatPaRef
import Derived.Test.YtoappddifbgegaaGreatPaVal
set_option linter.all false
namespace Go.Ab
open Go.Proofs
namespace Bi
attribute [local congr] wGq_congr
def rndS (a b : Int) : Int := (2 * a + b) / (2 * b)
section
variable {prim : FuncId → Option Prim} (d : Nat) (cfg : Cfg) (h : Heap)
def sclS (f : Fnt) (size w : Int) : Int := rndS (w * size) f.u
end
end Bi
end Go.Ab
namespace Go.Ab
open Go.Proofs
namespace Bi
attribute [local congr] wGq_congr
def lt2 (x y : Int × Int) : Prop := x.1 < y.1 ∨ x.1 = y.1 ∧ x.2 < y.2
instance {x y : Int × Int} : Decidable (lt2 x y) := by unfold lt2; exact inferInstance
theorem lt2.trans {x y z : Int × Int} (h : lt2 x y) (g : lt2 y z) : lt2 x z := by unfold lt2 at *; omega
section
variable {prim : FuncId → Option Prim} (d : Nat) (cfg : Cfg) (h : Heap)
end
end Bi
end Go.Ab
namespace Go.Ab
open Go.Proofs
namespace Bi
attribute [local congr] wGq_congr
def flatB (c : Int) : Prop := c = 4 ∨ c = 5 ∨ c = 3 ∨ c = 1 ∨ c = 2
instance {c : Int} : Decidable (flatB c) := by unfold flatB; exact inferInstance
def ligS (f : Fnt) (a b : Int) : Option (Int × Int × Int × Int) := f.lig.find? (fun x => decide (x.1 = a) && decide (x.2.1 = b))
section
variable {prim : FuncId → Option Prim} (d : Nat) (cfg : Cfg) (h : Heap)
end
end Bi
end Go.Ab
namespace Go.Ab
def encM {α β : Type} (k : α → List V) (v : β → V) (es : List (α × β)) : List (List V) := es.map fun e => [.agg (k e.1), v e.2]
structure MapT (P : Program) (t : TypeId) (n : Nat) (z : V) {α : Type} [DecidableEq α] (k : α → List V) : Prop where
  kinds : mapKinds P t = none
  tys : ∃ a fs, mapTys P t = some (a, fs, z) ∧ fs.length = n ∧ ∀ x y : α, eqV P a (.agg (k x)) (.agg (k y)) = some (decide (x = y))
  len : ∀ x : α, (k x).length = n
  flat : ∀ x : α, flatV (.agg (k x)) = true
section
variable {P : Program} {t : TypeId} {n : Nat} {z : V} {α β : Type} [DecidableEq α] {k : α → List V} {v : β → V}
end
theorem mapsIn_mem {h : Heap} {b : Nat} : b ∈ mapsIn h ↔ ∃ cs, h[b]? = some (some cs) ∧ isMap cs = true := by
  unfold mapsIn
  rw [List.mem_filter, List.mem_range]
  constructor
  · rintro ⟨h1, h2⟩
    split at h2
    · rename_i cs hc; exact ⟨cs, hc, h2⟩
    · cases h2
  · rintro ⟨cs, h1, h2⟩
    exact ⟨(List.getElem?_eq_some_iff.1 h1).1, by simp [h1, h2]⟩
theorem maps_all {h : Heap} {p : Nat → Bool} (hp : ∀ b cs, h[b]? = some (some cs) → isMap cs = true → p b = true) : (mapsIn h).all p = true := by
  rw [List.all_eq_true]
  intro b hb
  obtain ⟨cs, h1, h2⟩ := mapsIn_mem.1 hb
  exact hp b cs h1 h2
section
variable {P : Program} {md : FuncId → Nat} {prim : FuncId → Option Prim} {n : Nat}
end
end Go.Ab
namespace Go.Ab
namespace Bi
structure Gly where
  i : Int
  m : Int
  f : Int
  t : Int
  x : Int
  a : Int
  n : Int
  z : Int
def Chn : Int → Int → List Gly → Prop
  | a, b, [] => a = b
  | a, b, g :: l => g.f = a ∧ a < g.t ∧ Chn g.t b l
theorem Chn.len : ∀ {l : List Gly} {a b : Int}, Chn a b l → (l.length : Int) ≤ b - a
  | [], a, b, h => by have h : a = b := h; simp; omega
  | _ :: _, _, _, ⟨_, h2, h3⟩ => by have := h3.len; simp; omega
theorem Chn.le {l : List Gly} {a b : Int} (h : Chn a b l) : a ≤ b := by have := h.len; omega
theorem Chn.set : ∀ {l : List Gly} {a b : Int} {i : Nat} {g g' : Gly}, Chn a b l → l[i]? = some g → g'.f = g.f → g'.t = g.t → Chn a b (l.set i g')
  | [], _, _, _, _, _, _, h, _, _ => by simp at h
  | x :: l, a, b, 0, g, g', ⟨h1, h2, h3⟩, h, e1, e2 => by
    simp at h
    subst h
    exact ⟨e1.trans h1, by rw [e2]; exact h2, by rw [e2]; exact h3⟩
  | x :: l, a, b, i + 1, g, g', ⟨h1, h2, h3⟩, h, e1, e2 => ⟨h1, h2, h3.set (by simpa using h) e1 e2⟩
theorem Chn.last : ∀ {l : List Gly} {a b : Int} {g g' : Gly}, Chn a b l → l[l.length - 1]? = some g → g'.f = g.f → g.f < g'.t → Chn a g'.t (l.set (l.length - 1) g')
  | [], _, _, _, _, _, h, _, _ => by simp at h
  | [x], a, b, g, g', ⟨h1, _, _⟩, h, e1, e2 => by
    simp at h
    subst h
    exact ⟨e1.trans h1, by rw [← h1]; exact e2, rfl⟩
  | x :: y :: l, a, b, g, g', ⟨h1, h2, h3⟩, h, e1, e2 => by
    have := h3.last (l := y :: l) (g := g) (by simpa using h) e1 e2
    exact ⟨h1, h2, by simpa using this⟩
end Bi
end Go.Ab
namespace Go.Ab
open Go.Proofs
namespace Bi
attribute [local congr] wGq_congr
structure PKey where
  face : Int
  size : Int
  a : Int
  b : Int
  s : Bool
deriving DecidableEq
def pkC (k : PKey) : List V := [.int .i64 k.face, .int .i64 k.size, .int .i32 k.a, .int .i32 k.b, .bool k.s]
def unS (fs : List Fnt) (k : PKey) : (Int × Int × Int × Int) × Bool := match fs[k.face.toNat]? with
  | some f => ((ligS f k.a k.b).getD (0, 0, 0, 0), (ligS f k.a k.b).isSome)
  | none => ((0, 0, 0, 0), false)
abbrev WMap := List (PKey × Int)
abbrev wB (es : WMap) : Option (List V) := some [.mq (encM pkC (V.int .i64) es)]
section
variable {prim : FuncId → Option Prim} (d : Nat)
end
end Bi
end Go.Ab
namespace Go.Ab
open Go.Proofs
namespace Bi
attribute [local congr] wGq_congr
def rnA (t : List Int) (i : Int) : Int := t.getD i.toNat 0
def bdA (B : List Bool) (i : Int) : Bool := B.getD i.toNat false
def isLg (fs : List Fnt) (face : Int) (t : List Int) (B : List Bool) (g : Gly) : Bool := bdA B g.f && bdA B g.t && bdA B (g.t + 1) && (unS fs ⟨face, 0, rnA t g.f, rnA t g.t, false⟩).2
def mkLg (fs : List Fnt) (f : Fnt) (face size : Int) (t : List Int) (g g2 : Gly) : Gly :=
  { g with i := (unS fs ⟨face, 0, rnA t g.f, rnA t g.t, false⟩).1.2.2.1, m := 0, t := g2.t, a := sclS f size (unS fs ⟨face, 0, rnA t g.f, rnA t g.t, false⟩).1.2.2.2 }
def ligL (fs : List Fnt) (f : Fnt) (face size : Int) (t : List Int) (B : List Bool) : List Gly → List Gly
  | [] => []
  | [g] => [g]
  | g :: g2 :: r => if isLg fs face t B g then mkLg fs f face size t g g2 :: ligL fs f face size t B r else g :: ligL fs f face size t B (g2 :: r)
def Sng : Int → Int → List Gly → Prop
  | a, b, [] => a = b
  | a, b, g :: l => g.f = a ∧ g.t = a + 1 ∧ Sng (a + 1) b l
theorem Sng.len : ∀ {l : List Gly} {a b : Int}, Sng a b l → (l.length : Int) = b - a
  | [], a, b, h => by have h : a = b := h; simp; omega
  | _ :: _, _, _, ⟨_, _, h3⟩ => by have := h3.len; simp; omega
def MW (cfg : Cfg) (H : Heap) : Prop := ∀ b cs, H[b]? = some (some cs) → isMap cs = true → cfg.wr b = true
theorem MW.all {cfg : Cfg} {H : Heap} (h : MW cfg H) : ((mapsIn H).all fun b => cfg.wr b && decide (b < H.length)) = true :=
  maps_all fun b cs hb hm => by simp [h b cs hb hm, (List.getElem?_eq_some_iff.1 hb).1]
theorem MW.of {cfg : Cfg} {H H' base : Heap} {os : List Own} (h : MW cfg H) (hlo : cfg.lo ≤ H.length) (hp : Hp H' base os) (hl : H.length ≤ base.length) (hs : ∀ b cs, b < H.length → base[b]? = some (some cs) → isMap cs = true → ∃ cs', H[b]? = some (some cs') ∧ isMap cs' = true) : MW cfg H' := by
  intro b cs hb hm
  by_cases hbl : b < H.length
  · have hb2 : base[b]? = some (some cs) := by rw [← hp.take, List.getElem?_take, if_pos (by omega)]; exact hb
    obtain ⟨cs', h1, h2⟩ := hs b cs hbl hb2 hm
    exact h b cs' h1 h2
  · exact wr_lo (by omega)
end Bi
end Go.Ab
namespace Go.Ab
open Go.Proofs
namespace Bi
attribute [local congr] wGq_congr
section
variable {prim : FuncId → Option Prim} (d : Nat)
end
end Bi
end Go.Ab
namespace Go.Ab
open Go.Proofs
namespace Bi
attribute [local congr] wGq_congr
section
variable {fs : List Fnt} {face size : Int} {t : List Int} {B : List Bool}
end
theorem Chn.nx : ∀ {l : List Gly} {a b : Int} {i : Nat} {g g2 : Gly}, Chn a b l → l[i]? = some g → l[i + 1]? = some g2 → g2.f = g.t
  | [], _, _, _, _, _, _, h, _ => by simp at h
  | [_], _, _, _, _, _, _, _, h => by simp at h
  | x :: y :: r, a, b, 0, g, g2, ⟨_, _, h3, _⟩, h, h2 => by
    simp at h h2
    subst h h2
    exact h3
  | x :: y :: r, a, b, i + 1, g, g2, ⟨_, _, h3⟩, h, h2 => h3.nx (i := i) (by simpa using h) (by simpa using h2)
theorem tkdr_len {α : Type} {a l : List α} (ha : a.length = l.length) {i : Nat} : (a.take i ++ l.drop i).length = l.length := by
  simp
  omega
theorem tkdr_set {α : Type} {a l : List α} (ha : a.length = l.length) {i : Nat} {x : α} (hx : a[i]? = some x) : (a.take i ++ l.drop i).set i x = a.take (i + 1) ++ l.drop (i + 1) := by
  have hi := (List.getElem?_eq_some_iff.1 hx).1
  rw [List.set_append_right _ _ (by simp; omega), List.length_take, Nat.min_eq_left (by omega), Nat.sub_self, List.take_add_one, hx, List.drop_eq_getElem_cons (show i < l.length by omega), List.set_cons_zero]
  simp
theorem tkdr_all {α : Type} {a l : List α} (ha : a.length = l.length) {i : Nat} (hi : l.length ≤ i) : a.take i ++ l.drop i = a := by
  rw [List.take_of_length_le (by omega), List.drop_of_length_le hi, List.append_nil]
section
variable {prim : FuncId → Option Prim} (d : Nat)
end
end Bi
end Go.Ab
