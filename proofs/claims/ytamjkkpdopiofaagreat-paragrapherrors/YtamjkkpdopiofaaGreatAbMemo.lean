/- Calls whose results are known: a table that the evaluator looks into. -/
import Derived.Test.YtamjkkpdopiofaaGreatAbW2
namespace Go.Ab

def kindEq : IntKind → IntKind → Bool
  | .i8, .i8 | .i16, .i16 | .i32, .i32 | .i64, .i64 | .u8, .u8 | .u16, .u16 | .u32, .u32 | .u64, .u64 => true
  | _, _ => false

theorem kindEq_ok {a b : IntKind} (h : kindEq a b = true) : a = b := by
  cases a <;> cases b <;> first | rfl | simp [kindEq] at h

def listEq {α : Type} (f : α → α → Bool) : List α → List α → Bool
  | [], [] => true
  | a :: x, b :: y => f a b && listEq f x y
  | _, _ => false

theorem listEq_ok {α : Type} {f : α → α → Bool} (hf : ∀ a b, f a b = true → a = b) : ∀ x y, listEq f x y = true → x = y
  | [], [], _ => rfl
  | [], _ :: _, h => by simp [listEq] at h
  | _ :: _, [], h => by simp [listEq] at h
  | a :: x, b :: y, h => by
    simp only [listEq, Bool.and_eq_true] at h
    rw [hf a b h.1, listEq_ok hf x y h.2]

/-- Equal values (of those that a table holds). -/
def eqb : Nat → V → V → Bool
  | 0, _, _ => false
  | d + 1, x, y => match x, y with
    | .int k a, .int k' b => kindEq k k' && (a == b)
    | .bool a, .bool b => a == b
    | .str a, .str b => listEq (fun (p q : UInt8) => p.toNat == q.toNat) a.data.toList b.data.toList
    | .lst xs, .lst ys => listEq (listEq (eqb d)) xs ys
    | .agg xs, .agg ys => listEq (eqb d) xs ys
    | .nils, .nils => true
    | .nilp, .nilp => true
    | .no, .no => true
    | .sl a b c e f, .sl a' b' c' e' f' => a == a' && b == b' && c == c' && e == e' && f == f'
    | .ptr a b, .ptr a' b' => a == a' && b == b'
    | .tup xs, .tup ys => listEq (eqb d) xs ys
    | .mref a, .mref b => a == b
    | .mq xs, .mq ys => listEq (listEq (eqb d)) xs ys
    | _, _ => false

theorem eqb_ok : ∀ (d : Nat) (x y : V), eqb d x y = true → x = y
  | 0, x, y, h => by simp [eqb] at h
  | d + 1, x, y, h => by
    have ih := eqb_ok d
    unfold eqb at h
    split at h
    · simp only [Bool.and_eq_true, beq_iff_eq] at h
      rw [kindEq_ok h.1, h.2]
    · simp only [beq_iff_eq] at h
      rw [h]
    · rename_i a b
      have := listEq_ok (fun (p q : UInt8) hpq => UInt8.toNat_inj.1 (by simpa using hpq)) _ _ h
      obtain ⟨⟨l⟩⟩ := a
      obtain ⟨⟨m⟩⟩ := b
      simp only at this
      rw [this]
    · rw [listEq_ok (listEq_ok ih) _ _ h]
    · rw [listEq_ok ih _ _ h]
    · rfl
    · rfl
    · rfl
    · simp only [Bool.and_eq_true, beq_iff_eq] at h
      obtain ⟨⟨⟨⟨rfl, rfl⟩, rfl⟩, rfl⟩, rfl⟩ := h
      rfl
    · simp only [Bool.and_eq_true, beq_iff_eq] at h
      obtain ⟨rfl, rfl⟩ := h
      rfl
    · rw [listEq_ok ih _ _ h]
    · simp only [beq_iff_eq] at h
      rw [h]
    · rw [listEq_ok (listEq_ok ih) _ _ h]
    · cases h

def blkEq : Option (List V) → Option (List V) → Bool
  | none, none => true
  | some x, some y => listEq (eqb 9) x y
  | _, _ => false

theorem blkEq_ok (x y : Option (List V)) (h : blkEq x y = true) : x = y := by
  cases x <;> cases y <;> first | rfl | (simp [blkEq] at h; done) | (simp only [blkEq] at h; rw [listEq_ok (eqb_ok 9) _ _ h])

def cfgEq (a b : Cfg) : Bool := a.lo == b.lo && a.thr == b.thr && listEq (fun x y => Nat.beq x y) a.ex b.ex

theorem cfgEq_ok (a b : Cfg) (h : cfgEq a b = true) : a = b := by
  obtain ⟨l, e, t⟩ := a
  obtain ⟨l', e', t'⟩ := b
  simp only [cfgEq, Bool.and_eq_true, beq_iff_eq] at h
  obtain ⟨⟨rfl, rfl⟩, h⟩ := h
  rw [listEq_ok (fun a b h => Nat.eq_of_beq_eq_true h) _ _ h]

/-- What a call takes. -/
structure Key where
  cfg : Cfg
  args : List V
  h : Heap

abbrev Tbl := List (Key × V × Heap)

def keyEq (k : Key) (cfg : Cfg) (args : List V) (h : Heap) : Bool := cfgEq k.cfg cfg && listEq (eqb 9) k.args args && listEq blkEq k.h h

def find : Tbl → Cfg → List V → Heap → Option (V × Heap)
  | [], _, _, _ => none
  | (k, r) :: t, cfg, args, h => if keyEq k cfg args h then some r else find t cfg args h

def memoP (t : Tbl) : Prim := fun cfg args h => find t cfg args h

def primOf : List (FuncId × Tbl) → FuncId → Option Prim
  | [], _ => none
  | (g, t) :: r, f => if f == g then some (memoP t) else primOf r f

section
variable {P : Program} {md : FuncId → Nat} {prim : FuncId → Option Prim} {n d : Nat}

/-- Each row of a table is what the call gives. -/
def RowsOK (P : Program) (md : FuncId → Nat) (prim : FuncId → Option Prim) (n d : Nat) (f : FuncId) (t : Tbl) : Prop := ∀ k r, (k, r) ∈ t → callN P md prim n d k.cfg f k.args k.h = some r

theorem rows_nil {f : FuncId} : RowsOK P md prim n d f [] := fun _ _ h => by simp at h
theorem rows_cons {f : FuncId} {k : Key} {r : V × Heap} {t : Tbl} (hr : callN P md prim n d k.cfg f k.args k.h = some r) (ht : RowsOK P md prim n d f t) : RowsOK P md prim n d f ((k, r) :: t) := by
  intro k' r' hm
  rcases List.mem_cons.1 hm with hm | hm
  · cases hm; exact hr
  · exact ht k' r' hm

theorem find_mem : ∀ (t : Tbl) (cfg : Cfg) (args : List V) (h : Heap) (r : V × Heap), find t cfg args h = some r → (⟨cfg, args, h⟩, r) ∈ t
  | [], _, _, _, _, h => by simp [find] at h
  | (k, s) :: t, cfg, args, h, r, hf => by
    unfold find at hf
    split at hf
    · rename_i he
      cases hf
      simp only [keyEq, Bool.and_eq_true] at he
      obtain ⟨kc, ka, kh⟩ := k
      obtain ⟨⟨h1, h2⟩, h3⟩ := he
      rw [← cfgEq_ok _ _ h1, ← listEq_ok (eqb_ok 9) _ _ h2, ← listEq_ok blkEq_ok _ _ h3]
      exact List.mem_cons_self ..
    · exact List.mem_cons_of_mem _ (find_mem t cfg args h r hf)

theorem memo_ok (hm : P.follows .mixedOrders = true) (hN : Named P) (hp : ∀ f p, prim f = some p → PrimOK P f p) {f : FuncId} {t : Tbl} (ht : RowsOK P md prim n d f t) : PrimOK P f (memoP t) := by
  intro cfg args h r h' hx
  exact callN_ok hm hN hp d _ _ _ _ _ _ (ht _ _ (find_mem t cfg args h _ hx))

theorem memo_cons {l : List (FuncId × Tbl)} (hl : ∀ f t, (f, t) ∈ l → PrimOK P f (memoP t)) {f : FuncId} {t : Tbl} (hf : PrimOK P f (memoP t)) : ∀ g u, (g, u) ∈ (f, t) :: l → PrimOK P g (memoP u) := by
  intro g u hgu
  rcases List.mem_cons.1 hgu with h | h
  · cases h; exact hf
  · exact hl g u h

theorem primOf_ok : ∀ (l : List (FuncId × Tbl)), (∀ f t, (f, t) ∈ l → PrimOK P f (memoP t)) → ∀ f p, primOf l f = some p → PrimOK P f p
  | [], _, f, p, h => by simp [primOf] at h
  | (g, t) :: r, hl, f, p, h => by
    unfold primOf at h
    split at h
    · rename_i he
      cases h
      rw [eq_of_beq he]
      exact hl g t (List.mem_cons_self ..)
    · exact primOf_ok r (fun f t hft => hl f t (List.mem_cons_of_mem _ hft)) f p h
end
end Go.Ab
